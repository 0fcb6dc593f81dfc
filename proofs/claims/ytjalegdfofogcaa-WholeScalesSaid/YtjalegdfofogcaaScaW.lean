/- For all nets, factors, links and flows the statement WholeScales returns true. -/
import Derived.Test.YtjalegdfofogcaaScaC
import Derived.StillTailTactics
namespace Go.Proofs.Ytjalegdfofogcaa
set_option linter.unusedVariables false
set_option linter.unusedSimpArgs false
open Go.RowKit
theorem s3_keep {W : World} {b gq1 i : Nat} {Q r1 : Rq} {rs1 : List Rq} (hb : Blk W b 32 #[.int .i64 Q.n, .int .i64 Q.d]) (hr : RowBlk W gq1 32 ccell rs1) (hx : rs1[i]? = some r1) : W.cell? ⟨b, 0, none⟩ = some (.int .i64 Q.n) ∧ W.cell? ⟨b, 1, none⟩ = some (.int .i64 Q.d) ∧ W.cell? ⟨gq1, i * 2, none⟩ = some (.int .i64 r1.n) ∧ W.cell? ⟨gq1, i * 2 + 1, none⟩ = some (.int .i64 r1.d) :=
  ⟨hb.cell 0 rfl, hb.cell 1 rfl, hr.cell ccell_len hx (j := 0) rfl, hr.cell ccell_len hx (j := 1) rfl⟩
set_option maxRecDepth 100000 in
set_option maxHeartbeats 32000000 in
theorem walkWholeScales (n : PNet) (y l9 f9 : Int) (w : World) (hn : NetAt w w.heap.size n) (hy : 0 ≤ y ∧ y ≤ 255) (hl : 0 ≤ l9 ∧ l9 ≤ 255) (hf : 0 ≤ f9 ∧ f9 ≤ 255) :
    Calls Try.prog 3 #[nval n, .int .u8 y, .int .u8 l9, .int .u8 f9] w fun e w' => e = .returned (.bool true) ∧ Below w.heap.size w w' := by
  have HN := Kept.mk hn
  have HF9 := Kept.mk hf
  have HL9 := Kept.mk hl
  obtain ⟨y1, y2⟩ := hy
  have MO := fun w h => modest_c n w h
  clear hn hf hl
  obtain ⟨caps, cA, ck, flows, fA, fk⟩ := n
  unfold nval at MO ⊢
  dsimp only at MO ⊢
  have HP0 : Kept (Blk (w.alloc (.cells #[.slice cA caps.length ck, .slice fA flows.length fk] 25)) w.heap.size 25 #[.slice cA caps.length ck, .slice fA flows.length fk] ∧ Below w.heap.size w (w.alloc (.cells #[.slice cA caps.length ck, .slice fA flows.length fk] 25))) := ⟨Blk.new _ _ _, by go_grown⟩
  have n0 := HP0.out.1.cell 0 (v := .slice cA caps.length ck) rfl
  have n1 := HP0.out.1.cell 1 (v := .slice fA flows.length fk) rfl
  cases hmb : modB ⟨caps, cA, ck, flows, fA, fk⟩ with
  | false =>
    have HMB := Kept.mk hmb
    clear hmb
    go_enter Try.func3, Try.ntmps3
    go_wp2_with (first | (go_at_call 5; refine (awake_c _).mono ?_; rintro e wa ⟨rfl, hba⟩; have HPa : Kept (Blk wa w.heap.size 25 #[.slice cA caps.length ck, .slice fA flows.length fk] ∧ Below w.heap.size w wa) := ⟨HP0.out.1.new_ hba, join HP0.out.2 hba⟩; clear hba n0 n1; have n0 := HPa.out.1.cell 0 (v := .slice cA caps.length ck) rfl; have n1 := HPa.out.1.cell 1 (v := .slice fA flows.length fk) rfl) | (go_at_call 6; refine (MO _ (HN.out.new_ HPa.out.2)).mono ?_; rintro e wm ⟨rfl, hbm⟩; rw [HMB.out]; have HPm : Kept (Blk wm w.heap.size 25 #[.slice cA caps.length ck, .slice fA flows.length fk] ∧ Below w.heap.size w wm) := ⟨HPa.out.1.new_ hbm, join HPa.out.2 hbm⟩; clear hbm n0 n1; have n0 := HPm.out.1.cell 0 (v := .slice cA caps.length ck) rfl; have n1 := HPm.out.1.cell 1 (v := .slice fA flows.length fk) rfl))
    go_ret
    exact ⟨rfl, HPm.out.2⟩
  | true =>
    have HMB := Kept.mk hmb
    have HOK := Kept.mk (mod_net hmb)
    have RT := fun w h => rates_c ⟨caps, cA, ck, flows, fA, fk⟩ w h (mod_ok hmb).1 (mod_net hmb)
    have hc4 : caps.length ≤ 4 := (mod_ok hmb).2.1
    have hf5 : flows.length ≤ 5 := (mod_ok hmb).2.2.1
    have HCS := Kept.mk (mod_ok hmb).2.2.2
    unfold nval at RT
    dsimp only at RT HCS
    obtain ⟨t, ht⟩ : ∃ t : Nat, y % 9 = t := ⟨(y % 9).toNat, by omega⟩
    have ht9 : t < 9 := by omega
    have htm : y.tmod 9 = (t : Int) := by rw [Int.tmod_eq_emod_of_nonneg y1]; exact ht
    have hwt : IntKind.i64.wrap (t : Int) = t := IntWalk.i64_in _ (by omega)
    have hwy : IntKind.i64.wrap y = y := IntWalk.i64_in _ (by omega)
    obtain ⟨kk, hkk⟩ : ∃ kk : Nat, kk = t + 1 := ⟨_, rfl⟩
    have hw1 : IntKind.i64.wrap (1 + (t : Int)) = (kk : Int) := by rw [IntWalk.i64_in _ (by omega)]; omega
    have hk1 : 1 ≤ kk := by omega
    have hk9 : kk ≤ 9 := by omega
    clear hmb ht hkk
    go_enter Try.func3, Try.ntmps3
    go_upto_region 8 with (first | (go_at_call 5; refine (awake_c _).mono ?_; rintro e wa ⟨rfl, hba⟩; have HPa : Kept (Blk wa w.heap.size 25 #[.slice cA caps.length ck, .slice fA flows.length fk] ∧ Below w.heap.size w wa) := ⟨HP0.out.1.new_ hba, join HP0.out.2 hba⟩; clear hba n0 n1; have n0 := HPa.out.1.cell 0 (v := .slice cA caps.length ck) rfl; have n1 := HPa.out.1.cell 1 (v := .slice fA flows.length fk) rfl) | (go_at_call 6; refine (MO _ (HN.out.new_ HPa.out.2)).mono ?_; rintro e wm ⟨rfl, hbm⟩; rw [HMB.out]; have HPm : Kept (Blk wm w.heap.size 25 #[.slice cA caps.length ck, .slice fA flows.length fk] ∧ Below w.heap.size w wm) := ⟨HPa.out.1.new_ hbm, join HPa.out.2 hbm⟩; clear hbm n0 n1; have n0 := HPm.out.1.cell 0 (v := .slice cA caps.length ck) rfl; have n1 := HPm.out.1.cell 1 (v := .slice fA flows.length fk) rfl) | (go_at_call 7; refine (RT _ (HN.out.new_ HPm.out.2)).mono ?_; rintro e wt ⟨m, gq, rfl, hfin, hrr, hgq, hbt⟩; have HFI := Kept.mk hfin; have HRR := Kept.mk hrr; have HGQ : Kept (w.heap.size < gq) := ⟨Nat.lt_of_lt_of_le HPm.out.1.lt hgq⟩; have HPt : Kept (Blk wt w.heap.size 25 #[.slice cA caps.length ck, .slice fA flows.length fk] ∧ Below w.heap.size w wt) := ⟨HPm.out.1.new_ hbt, join HPm.out.2 hbt⟩; clear hbt hfin hrr hgq n0 n1; have n0 := HPt.out.1.cell 0 (v := .slice cA caps.length ck) rfl; have n1 := HPt.out.1.cell 1 (v := .slice fA flows.length fk) rfl))
    go_upto_region 10 with fail
    obtain ⟨rs, hrs⟩ : ∃ rs, rs = (itr ⟨caps, cA, ck, flows, fA, fk⟩ m).1 := ⟨_, rfl⟩
    have HRS := Kept.mk hrs
    obtain ⟨b11, hb11⟩ : ∃ b, b = wt.heap.size := ⟨_, rfl⟩
    obtain ⟨b12, hb12⟩ : ∃ b, b = wt.heap.size + 1 := ⟨_, rfl⟩
    obtain ⟨bb, hbb⟩ : ∃ b, b = wt.heap.size + 2 := ⟨_, rfl⟩
    obtain ⟨V, hV, HS⟩ : ∃ V, V = (wt.alloc (.cells #[.int .i64 (kk : Int), .int .i64 1] 32)).alloc (.cells #[.slice none 0 0, .slice none 0 0] 25) ∧ Kept (SA w V ⟨caps, cA, ck, flows, fA, fk⟩ gq rs b11 #[.int .i64 (kk : Int), .int .i64 1] b12 (.slice none 0 0) (.slice none 0 0) [] [] bb) := ⟨_, rfl, ⟨by
      have hbel : Below wt.heap.size wt ((wt.alloc (.cells #[.int .i64 (kk : Int), .int .i64 1] 32)).alloc (.cells #[.slice none 0 0, .slice none 0 0] 25)) := by go_grown
      have hnb : Blk ((wt.alloc (.cells #[.int .i64 (kk : Int), .int .i64 1] 32)).alloc (.cells #[.slice none 0 0, .slice none 0 0] 25)) (wt.heap.size + 1) 25 #[.slice none 0 0, .slice none 0 0] := by
        have := Blk.new (wt.alloc (.cells #[.int .i64 (kk : Int), .int .i64 1] 32)) 25 #[.slice none 0 0, .slice none 0 0]
        rwa [World.size_alloc] at this
      have hq := HRR.out.lt
      have hx := HPt.out.1.lt
      have hgq := HGQ.out
      rw [hrs, hb11, hb12, hbb]
      exact ⟨HPt.out.1.new_ hbel, HN.out.keep (B' := w.heap.size) (fun p hp => (join HPt.out.2 hbel).cell hp), HRR.out.new_ hbel, (Blk.new _ _ _).alloc _, hnb, World.ownsRow_nil _ _ _ _, World.ownsRow_nil _ _ _ _, join HPt.out.2 hbel, by simp; omega⟩⟩⟩
    rw [← hV]
    rw [← hb12, ← hb11]
    clear hV hb11 hb12 hbb hrs HPt HPm HPa HP0 HRR HGQ n0 n1 MO
    have n0 := HS.out.x.cell 0 (v := .slice cA caps.length ck) rfl; have n1 := HS.out.x.cell 1 (v := .slice fA flows.length fk) rfl; have nl := HS.out.x.lt
    go_wp2_with fail
    go_loopw [63] (fun v wr => ∃ k : Nat, k ≤ caps.length ∧ v = .int .i64 k ∧ ∃ (A : Option Addr) (kp : Nat), Kept (SA w wr ⟨caps, cA, ck, flows, fA, fk⟩ gq rs b11 #[.int .i64 (kk : Int), .int .i64 1] b12 (.slice A ((caps.take k).map (scq kk)).length kp) (.slice none 0 0) ((caps.take k).map (scq kk)) [] bb)) (fun v _ => caps.length - (intOf v).toNat)
    case atStart => exact ⟨0, Nat.zero_le _, rfl, none, 0, HS⟩
    case round =>
      clear HS n0 n1 nl
      obtain ⟨k, hk, rfl, A, kp, HS⟩ := hrel
      have n0 := HS.out.x.cell 0 (v := .slice cA caps.length ck) rfl; have n1 := HS.out.x.cell 1 (v := .slice fA flows.length fk) rfl; have nl := HS.out.x.lt
      obtain ⟨cs, hcs⟩ : ∃ cs, cs = (caps.take k).map (scq kk) := ⟨_, rfl⟩
      rw [← hcs] at HS
      by_cases hlt : k < caps.length
      · obtain ⟨c, b, off, hc, rfl, -, hb, c0, c1, -⟩ := HS.out.net.capAt hlt
        dsimp only at hc
        have hco := HCS.out.1 c (List.mem_of_getElem? hc)
        have MU := fun w => mulk_c c kk w hk9 hco.1 (hco.2.1.sm (by omega) (by omega) (by omega))
        obtain ⟨Q, hQ⟩ : ∃ Q, Q = scq kk c := ⟨_, rfl⟩
        rw [← hQ] at MU
        unfold rqv at MU
        dsimp only at MU
        have HN1 : Kept ((caps.take (k + 1)).map (scq kk) = cs ++ [Q]) := ⟨by rw [take_next hc, List.map_append, hcs, hQ]; rfl⟩
        have hcl : cs.length ≤ 4 := by rw [hcs, List.length_map, List.length_take]; omega
        have HS0 := Kept.mk (HS.out.alloc (.cells #[.int .i64 c.n, .int .i64 c.d] 32))
        have q0 := HS0.out.ke.cell 0 (v := .int .i64 (kk : Int)) rfl
        have q1 := HS0.out.ke.cell 1 (v := .int .i64 1) rfl
        have q2 := HS0.out.ke.lt
        clear hc hco hQ hcs
        go_upto_region 14 with (go_at_call 8; refine (MU _).mono ?_; rintro e wq ⟨rfl, hbq⟩; have HS1 := Kept.mk (HS0.out.new_ hbq); clear hbq)
        obtain ⟨V, hV, HV⟩ : ∃ V, V = wq.alloc (.cells #[.int .i64 Q.n, .int .i64 Q.d] 32) ∧ Kept (SA w V ⟨caps, some ⟨b, off, none⟩, ck, flows, fA, fk⟩ gq rs b11 #[.int .i64 (kk : Int), .int .i64 1] b12 (.slice A cs.length kp) (.slice none 0 0) cs [] bb ∧ Blk V wq.heap.size 32 #[.int .i64 Q.n, .int .i64 Q.d]) := ⟨_, rfl, ⟨HS1.out.alloc _, Blk.new _ _ _⟩⟩
        rw [← hV]
        clear hV HS0 HS q0 q1 q2 n0 n1 nl c0 c1
        obtain ⟨i4, hi4, hz0, hz1, hz2⟩ := info_parts infoR
        have HOA := Kept.mk (HV.out.1.alloc (.cells #[.int .i64 Q.n, .int .i64 Q.d] 32))
        have HRL := Kept.mk (reads_made V #[.int .i64 Q.n, .int .i64 Q.d] 32 2 1 rfl)
        have hbs : bb ≤ V.heap.size := HV.out.1.lo.2.2.2.2.2
        have t0 := HV.out.1.sb.cell 0 (v := .slice A cs.length kp) rfl
        have t1 := HV.out.1.sb.lt
        have e0 := HV.out.2.cell 0 (v := .int .i64 Q.n) rfl
        have e1 := HV.out.2.cell 1 (v := .int .i64 Q.d) rfl
        have e2 := HV.out.2.lt
        go_wp2_with (at_builtin; refine wpList_append_any _ rfl _ _ _ rfl bb 32 i4 _ 2 16 Try.underlying22 hi4 hz0 hz1 hz2 rfl (by omega) _ cs.length _ rfl HOA.out.oc _ _ 1 1 _ rfl HRL.out (fun u hu => by simp at hu; rcases hu with rfl | rfl <;> rfl) (by unfold maxLen; omega) (by omega) (by simp only [World.size_alloc]; omega) ?_; intro v9 w9 ho hgw hat; obtain ⟨A2, k2, rfl⟩ := own_slice ho; have HO9 := Kept.mk ho; have HG9 := Kept.mk hgw; have HSB9 := Kept.mk (HOA.out.sb.grown hgw (fun e => by have := (HOA.out.oc.lt b12 e.symm).1; have := HOA.out.lo; omega)); clear ho hgw hat t0 t1; have t0 := HSB9.out.cell 0 (v := .slice A cs.length kp) rfl; have t2 := HSB9.out.free 0; have t1 := HSB9.out.lt)
        go_roundw
        case rel => exact ⟨k + 1, by omega, by go_num, A2, k2, by rw [HN1.out, List.length_append]; exact ⟨HOA.out.growC (x := Q) HO9.out HG9.out⟩⟩
        case measure => simp [intOf]; omega
      · obtain rfl : k = caps.length := by omega
        have HCE : Kept (cs = caps.map (scq kk)) := ⟨by rw [hcs, List.take_length]⟩
        clear hlt hcs
        obtain ⟨wa, rfl⟩ : ∃ wa : World, wa = wr := ⟨_, rfl⟩
        go_wp2_with fail
        go_loopw [83] (fun v wr => ∃ k : Nat, k ≤ flows.length ∧ v = .int .i64 k ∧ ∃ (A1 : Option Addr) (kp1 : Nat), Kept (SA w wr ⟨caps, cA, ck, flows, fA, fk⟩ gq rs b11 #[.int .i64 (kk : Int), .int .i64 1] b12 (.slice A cs.length kp) (.slice A1 ((flows.take k).map (sfl kk)).length kp1) cs ((flows.take k).map (sfl kk)) bb)) (fun v _ => flows.length - (intOf v).toNat)
        case atStart => exact ⟨0, Nat.zero_le _, rfl, none, 0, HS⟩
        case round =>
          clear HS n0 n1 nl
          obtain ⟨k, hk, rfl, A1, kp1, HS⟩ := hrel
          have n0 := HS.out.x.cell 0 (v := .slice cA caps.length ck) rfl; have n1 := HS.out.x.cell 1 (v := .slice fA flows.length fk) rfl; have nl := HS.out.x.lt
          obtain ⟨fs, hfs⟩ : ∃ fs, fs = (flows.take k).map (sfl kk) := ⟨_, rfl⟩
          rw [← hfs] at HS
          by_cases hlt : k < flows.length
          · obtain ⟨p, bF, oF, hp, rfl, -, hb, ⟨c0, c1, c2, c3⟩, -⟩ := HS.out.net.flowAt hlt
            obtain ⟨ls, pA, pk, pb, pd⟩ := p
            dsimp only at hp c0 c1 c2 c3
            have hco := HCS.out.2 _ (List.mem_of_getElem? hp)
            dsimp only at hco
            have MU := fun w => mulk_c pd kk w hk9 hco.1 (hco.2.1.sm (by omega) (by omega) (by omega))
            obtain ⟨Q, hQ⟩ : ∃ Q, Q = scq kk pd := ⟨_, rfl⟩
            rw [← hQ] at MU
            unfold rqv at MU
            dsimp only at MU
            have HN1 : Kept ((flows.take (k + 1)).map (sfl kk) = fs ++ [⟨ls, pA, pk, pb, Q⟩]) := ⟨by rw [take_next hp, List.map_append, hfs, hQ]; rfl⟩
            have hfl : fs.length ≤ 5 := by rw [hfs, List.length_map, List.length_take]; omega
            have HS0 := Kept.mk (HS.out.alloc (.cells #[.slice pA ls.length pk, .bool pb, .int .i64 pd.n, .int .i64 pd.d] 37))
            have HB0 := Kept.mk (Blk.new wr 37 #[.slice pA ls.length pk, .bool pb, .int .i64 pd.n, .int .i64 pd.d])
            have HRO : Kept ((∀ q, (Value.slice A cs.length kp).ownBlock = some q → q ≠ wr.heap.size) ∧ (∀ q, (Value.slice A1 fs.length kp1).ownBlock = some q → q ≠ wr.heap.size) ∧ bb ≤ wr.heap.size) := ⟨fun q hq => by have := (HS.out.oc.lt q hq).2; omega, fun q hq => by have := (HS.out.of.lt q hq).2; omega, by have := HS.out.lo; omega⟩
            obtain ⟨b18, hb18⟩ : ∃ b, b = wr.heap.size := ⟨_, rfl⟩
            have q0 := HS0.out.ke.cell 0 (v := .int .i64 (kk : Int)) rfl
            have q1 := HS0.out.ke.cell 1 (v := .int .i64 1) rfl
            have q2 := HS0.out.ke.lt
            rw [← hb18] at HB0 HRO
            have HB18 := Kept.mk hb18
            clear hp hco hQ hfs hb18
            go_upto_region 20 with (go_at_call 8; refine (MU _).mono ?_; rintro e wq ⟨rfl, hbq⟩; have HS1 := Kept.mk (HS0.out.new_ hbq); have HB1 := Kept.mk (HB0.out.new_ hbq); clear hbq; rw [← HB18.out]; have g2 := HB1.out.cell 2 (v := .int .i64 pd.n) rfl; have g3 := HB1.out.cell 3 (v := .int .i64 pd.d) rfl; have gf2 := HB1.out.free 2; have gf3 := HB1.out.free 3; have gl := HB1.out.lt)
            obtain ⟨V, hV, HV⟩ : ∃ V, V = (wq.setCell ⟨b18, 2, none⟩ (.int .i64 Q.n)).setCell ⟨b18, 3, none⟩ (.int .i64 Q.d) ∧ Kept (SA w V ⟨caps, cA, ck, flows, some ⟨bF, oF, none⟩, fk⟩ gq rs b11 #[.int .i64 (kk : Int), .int .i64 1] b12 (.slice A cs.length kp) (.slice A1 fs.length kp1) cs fs bb ∧ Blk V b18 37 #[.slice pA ls.length pk, .bool pb, .int .i64 Q.n, .int .i64 Q.d]) := ⟨_, rfl, ⟨(HS1.out.far (p := ⟨b18, 2, none⟩) HRO.out.2.2 HRO.out.1 HRO.out.2.1 _).far (p := ⟨b18, 3, none⟩) HRO.out.2.2 HRO.out.1 HRO.out.2.1 _, (HB1.out.set_ 2 _).to 3 _ rfl⟩⟩
            rw [← hV]
            clear hV HS0 HB0 HB18 HS1 HB1 HS q0 q1 q2 n0 n1 nl c0 c1 c2 c3 g2 g3 gf2 gf3 gl
            obtain ⟨i4, hi4, hz0, hz1, hz2⟩ := info_parts infoF
            have HOA := Kept.mk (HV.out.1.alloc (.cells #[.slice pA ls.length pk, .bool pb, .int .i64 Q.n, .int .i64 Q.d] 37))
            have HRL := Kept.mk (reads_made V #[.slice pA ls.length pk, .bool pb, .int .i64 Q.n, .int .i64 Q.d] 37 4 1 rfl)
            have hbs : bb ≤ V.heap.size := HV.out.1.lo.2.2.2.2.2
            have t0 := HV.out.1.sb.cell 1 (v := .slice A1 fs.length kp1) rfl
            have t1 := HV.out.1.sb.lt
            have e0 := HV.out.2.cell 0 (v := .slice pA ls.length pk) rfl
            have e1 := HV.out.2.cell 1 (v := .bool pb) rfl
            have e2 := HV.out.2.cell 2 (v := .int .i64 Q.n) rfl
            have e3 := HV.out.2.cell 3 (v := .int .i64 Q.d) rfl
            have e4 := HV.out.2.lt
            go_wp2_with (at_builtin; refine wpList_append_any _ rfl _ _ _ rfl bb 37 i4 _ 4 48 Try.underlying23 hi4 hz0 hz1 hz2 rfl (by omega) _ fs.length _ rfl HOA.out.of _ _ 1 1 _ rfl HRL.out (fun u hu => by simp at hu; rcases hu with rfl | rfl | rfl | rfl <;> rfl) (by unfold maxLen; omega) (by omega) (by simp only [World.size_alloc]; omega) ?_; intro v9 w9 ho hgw hat; obtain ⟨A2, k2, rfl⟩ := own_slice ho; have HO9 := Kept.mk ho; have HG9 := Kept.mk hgw; have HSB9 := Kept.mk (HOA.out.sb.grown hgw (fun e => by have := (HOA.out.of.lt b12 e.symm).1; have := HOA.out.lo; omega)); clear ho hgw hat t0 t1; have t0 := HSB9.out.cell 1 (v := .slice A1 fs.length kp1) rfl; have t2 := HSB9.out.free 1; have t1 := HSB9.out.lt)
            go_roundw
            case rel => exact ⟨k + 1, by omega, by go_num, A2, k2, by rw [HN1.out, List.length_append]; exact ⟨HOA.out.growF (x := ⟨ls, pA, pk, pb, Q⟩) HO9.out HG9.out⟩⟩
            case measure => simp [intOf]; omega
          · obtain rfl : k = flows.length := by omega
            have HFE : Kept (fs = flows.map (sfl kk)) := ⟨by rw [hfs, List.take_length]⟩
            clear hlt hfs
            have HSN := Kept.mk (scaled_net (n := ⟨caps, cA, ck, flows, fA, fk⟩) (n' := ⟨cs, A, kp, fs, A1, kp1⟩) hk1 hk9 HMB.out HCE.out HFE.out)
            have HNA : Kept (NetAt wr wr.heap.size ⟨cs, A, kp, fs, A1, kp1⟩) := ⟨⟨RowsAt.of_own HS.out.oc ccell_len (by omega) rfl, RowsAt.of_own HS.out.of fcell_len (by omega) rfl, fun p hp => by
              dsimp only at hp
              rw [HFE.out, List.mem_map] at hp
              obtain ⟨p0, hp0, rfl⟩ := hp
              have h := HS.out.net.fl p0 hp0
              exact ⟨h.rd.more HS.out.blw.size, h.le, h.mx, okQ_R64 (scq_ok hk9 (HCS.out.2 p0 hp0)).1⟩, fun c hc => by
              dsimp only at hc
              rw [HCE.out, List.mem_map] at hc
              obtain ⟨c0, hc0, rfl⟩ := hc
              exact okQ_R64 (scq_ok hk9 (HCS.out.1 c0 hc0)).1, own_cap HS.out.oc, own_cap HS.out.of⟩⟩
            have RT1 := fun w h => rates_c ⟨cs, A, kp, fs, A1, kp1⟩ w h HSN.out.1 HSN.out.2.1
            unfold nval at RT1
            dsimp only at RT1
            have hff : ((fs.length : Int) != (flows.length : Int)) = false := by rw [HFE.out, List.length_map]; simp
            have HFL : Kept (fs.length = flows.length) := ⟨by rw [HFE.out, List.length_map]⟩
            have t0 := HS.out.sb.cell 0 (v := .slice A cs.length kp) rfl
            have t1 := HS.out.sb.cell 1 (v := .slice A1 fs.length kp1) rfl
            have t2 := HS.out.sb.lt
            go_upto_region 25 with (go_at_call 7; refine (RT1 _ HNA.out).mono ?_; rintro e wu ⟨m1, gq1, rfl, hfin1, hrr1, hgq1, hbu⟩; have HFI1 := Kept.mk hfin1; have HRR1 := Kept.mk hrr1; have HSU := Kept.mk (HS.out.new_ hbu); clear hfin1 hrr1 hgq1 hbu)
            obtain ⟨rs1, hrs1⟩ : ∃ rs1, rs1 = (itr ⟨cs, A, kp, fs, A1, kp1⟩ m1).1 := ⟨_, rfl⟩
            rw [← hrs1] at HRR1
            have hg1 := fin_good HSN.out.2.1 HFI1.out
            have hg0 := fin_good HOK.out HFI.out
            rw [← hrs1] at hg1
            rw [← HRS.out] at hg0
            dsimp only at hg0 hg1
            have HG0 := Kept.mk hg0
            have HL1 : Kept (rs1.length = flows.length) := ⟨by rw [hg1.1, HFL.out]⟩
            have HEQ : Kept (∀ (i : Nat) (r r1 : Rq), rs[i]? = some r → rs1[i]? = some r1 → cmpQ (scq kk r) r1 = 0 ∧ (R64 r1.n ∧ R64 r1.d) ∧ okQ r = true ∧ Sm (val r) ∧ (R64 (scq kk r).n ∧ R64 (scq kk r).d)) := ⟨fun i r r1 hr hr1 => by
              have hi : i < flows.length := by rw [← hg0.1]; exact (List.getElem?_eq_some_iff.1 hr).1
              have hsf := sim_fin HSN.out.2.2 HOK.out HSN.out.2.1 HFI.out HFI1.out i hi
              rw [← hrs1, ← HRS.out, rt_get hr, rt_get hr1] at hsf
              obtain ⟨g1, g2⟩ := hg0.2 r (List.mem_of_getElem? hr)
              obtain ⟨g3, -⟩ := hg1.2 r1 (List.mem_of_getElem? hr1)
              have hs9 : Sm (val r * (kk : Rat)) := ((gd_mulk g2).wide (N := 84348 * 9) (Nat.mul_le_mul_left _ hk9)).sm (by omega) (by omega) (by omega)
              exact ⟨(cmpQ_val hs9.ok g3).2.2 (by rw [val_cq, hsf]), okQ_R64 g3, g1, g2.sm (by omega) (by omega) (by omega), sm_64 hs9⟩⟩
            clear hrs1 hg1 hg0 t0 t1 t2 HNA RT1 n0 n1 nl hff HS
            have n0 := HSU.out.x.cell 0 (v := .slice cA caps.length ck) rfl; have n1 := HSU.out.x.cell 1 (v := .slice fA flows.length fk) rfl; have nl := HSU.out.x.lt
            have HS3 : Kept (SA w wu ⟨caps, cA, ck, flows, fA, fk⟩ gq rs b11 #[.int .i64 (kk : Int), .int .i64 1] b12 (.slice A cs.length kp) (.slice A1 fs.length kp1) cs fs bb ∧ RowBlk wu gq1 32 ccell rs1) := ⟨HSU.out, HRR1.out⟩
            clear HSU HRR1
            go_wp2_with fail
            go_loopw [118] (fun v wr => ∃ i : Nat, i ≤ flows.length ∧ v = .int .i64 i ∧ Kept (SA w wr ⟨caps, cA, ck, flows, fA, fk⟩ gq rs b11 #[.int .i64 (kk : Int), .int .i64 1] b12 (.slice A cs.length kp) (.slice A1 fs.length kp1) cs fs bb ∧ RowBlk wr gq1 32 ccell rs1)) (fun v _ => flows.length - (intOf v).toNat)
            case atStart => exact ⟨0, Nat.zero_le _, rfl, HS3⟩
            case round =>
              clear HS3 n0 n1 nl
              obtain ⟨i, hi, rfl, HS3⟩ := hrel
              by_cases hlt : i < flows.length
              · obtain ⟨r, hr⟩ := get_some (l := rs) (k := i) (by rw [HG0.out.1]; exact hlt)
                obtain ⟨r1, hr1⟩ := get_some (l := rs1) (k := i) (by rw [HL1.out]; exact hlt)
                obtain ⟨hz, h64, hro, hrs9, hq64⟩ := HEQ.out i r r1 hr hr1
                have MU := fun w => mulk_c r kk w hk9 hro hrs9
                obtain ⟨Q, hQ⟩ : ∃ Q, Q = scq kk r := ⟨_, rfl⟩
                rw [← hQ] at MU hz hq64
                have CM := fun w => cmp_c Q r1 w hq64.1 hq64.2 h64.1 h64.2
                rw [hz] at CM
                unfold rqv at MU CM
                dsimp only at MU
                have HRG := Kept.mk hr
                have HRG1 := Kept.mk hr1
                have hi1 : i < fs.length := by rw [HFL.out]; exact hlt
                clear hr hr1 hz hQ hro hrs9
                go_upto_region 28 with fail
                obtain ⟨Z, hZ, HZ⟩ : ∃ Z, Z = wr ∧ Kept (SA w Z ⟨caps, cA, ck, flows, fA, fk⟩ gq rs b11 #[.int .i64 (kk : Int), .int .i64 1] b12 (.slice A cs.length kp) (.slice A1 fs.length kp1) cs fs bb ∧ RowBlk Z gq1 32 ccell rs1) := ⟨_, rfl, HS3⟩
                rw [← hZ]
                clear hZ HS3
                go_cut [22, 23] (fun s22 s23 wx => ∃ b22 : Nat, s22 = .pointer (some ⟨b22, 0, none⟩) ∧ s23 = .int .i64 0 ∧ Kept (Blk wx b22 32 #[.int .i64 Q.n, .int .i64 Q.d] ∧ Below Z.heap.size Z wx))
                case first =>
                  refine with_act fun aq haq => ?_
                  refine wp_region_inv (fun L az w1z => ∃ (x22 x23 x121 x122 x123 x124 x125 x126 x127 x128 x129 : Value), az = (((((((((((aq.put (some 22) x22).put (some 23) x23).put (some 121) x121).put (some 122) x122).put (some 123) x123).put (some 124) x124).put (some 125) x125).put (some 126) x126).put (some 127) x127).put (some 128) x128).put (some 129) x129) ∧ (Below Z.heap.size Z w1z) ∧ (L.getD 0 false = true → x122 = .slice (some ⟨gq, 0, none⟩) flows.length flows.length) ∧ (L.getD 1 false = true → x123 = .int .i64 (i : Int)) ∧ (L.getD 2 false = true → x124 = .pointer (some ⟨gq, i * 2, none⟩)) ∧ (L.getD 3 false = true → x125 = .agg #[.int .i64 r.n, .int .i64 r.d]) ∧ (L.getD 4 false = true → x126 = .agg #[.int .i64 (kk : Int), .int .i64 1]) ∧ (L.getD 5 false = true → x127 = .tuple #[.agg #[.int .i64 Q.n, .int .i64 Q.d], .int .i64 0]) ∧ (L.getD 6 false = true → x121 = .tuple #[.agg #[.int .i64 Q.n, .int .i64 Q.d], .int .i64 0]) ∧ (L.getD 7 false = true → x128 = .agg #[.int .i64 Q.n, .int .i64 Q.d]) ∧ (L.getD 8 false = true → x129 = .int .i64 0) ∧ (L.getD 11 false = true → x23 = .int .i64 0) ∧ (L.getD 9 false = true → ∃ b : Nat, x22 = .pointer (some ⟨b, 0, none⟩) ∧ Z.heap.size ≤ b ∧ Blk w1z b 32 (if L.getD 10 false = true then #[.int .i64 Q.n, .int .i64 Q.d] else #[.int .i64 0, .int .i64 0])) ∧ (L.getD 10 false = true → L.getD 9 false = true)) (by kernel_rfl) (by kernel_rfl) ?start ?oper ?done
                  case start =>
                    refine ⟨aq.tmps.getD 22 undef, aq.tmps.getD 23 undef, aq.tmps.getD 121 undef, aq.tmps.getD 122 undef, aq.tmps.getD 123 undef, aq.tmps.getD 124 undef, aq.tmps.getD 125 undef, aq.tmps.getD 126 undef, aq.tmps.getD 127 undef, aq.tmps.getD 128 undef, aq.tmps.getD 129 undef, by subst haq; simp only [Act.put, List.setIfInBounds_toArray, List.set_cons_zero, List.set_cons_succ, Array.getD_eq_getD_getElem?, List.getElem?_toArray, List.getElem?_cons_zero, List.getElem?_cons_succ, Option.getD_some], dN (Below.refl Z.heap.size Z) 1, none_yet, none_yet, none_yet, none_yet, none_yet, none_yet, none_yet, none_yet, none_yet, none_yet, none_yet, none_yet⟩
                  case oper =>
                    intro L az w1z i hI hr
                    obtain ⟨x22, x23, x121, x122, x123, x124, x125, x126, x127, x128, x129, rfl, f0, f1, f2, f3, f4, f5, f6, f7, f8, f9, f10, f11, f12⟩ := hI
                    subst haq
                    have hi : i < 12 := ready_lt hr
                    have hcase : i = 0 ∨ i = 1 ∨ i = 2 ∨ i = 3 ∨ i = 4 ∨ i = 5 ∨ i = 6 ∨ i = 7 ∨ i = 8 ∨ i = 9 ∨ i = 10 ∨ i = 11 := by omega
                    clear hi
                    rcases hcase with rfl | rfl | rfl | rfl | rfl | rfl | rfl | rfl | rfl | rfl | rfl | rfl
                    · refine inv_op rfl (fun K hK => ?_)
                      try simp only [Act.put, List.setIfInBounds_toArray, List.set_cons_zero, List.set_cons_succ]
                      go_simp
                      refine hK.out _ _ ⟨x22, x23, x121, .slice (some ⟨gq, 0, none⟩) flows.length flows.length, x123, x124, x125, x126, x127, x128, x129, (by simp only [Act.put, List.setIfInBounds_toArray, List.set_cons_zero, List.set_cons_succ]), f0, (fun _ => rfl), (fun h => by first | exact f2 (by rwa [set_other (by decide)] at h) | (rw [set_other (by decide)] at h ⊢; exact f2 h)), (fun h => by first | exact f3 (by rwa [set_other (by decide)] at h) | (rw [set_other (by decide)] at h ⊢; exact f3 h)), (fun h => by first | exact f4 (by rwa [set_other (by decide)] at h) | (rw [set_other (by decide)] at h ⊢; exact f4 h)), (fun h => by first | exact f5 (by rwa [set_other (by decide)] at h) | (rw [set_other (by decide)] at h ⊢; exact f5 h)), (fun h => by first | exact f6 (by rwa [set_other (by decide)] at h) | (rw [set_other (by decide)] at h ⊢; exact f6 h)), (fun h => by first | exact f7 (by rwa [set_other (by decide)] at h) | (rw [set_other (by decide)] at h ⊢; exact f7 h)), (fun h => by first | exact f8 (by rwa [set_other (by decide)] at h) | (rw [set_other (by decide)] at h ⊢; exact f8 h)), (fun h => by first | exact f9 (by rwa [set_other (by decide)] at h) | (rw [set_other (by decide)] at h ⊢; exact f9 h)), (fun h => by first | exact f10 (by rwa [set_other (by decide)] at h) | (rw [set_other (by decide)] at h ⊢; exact f10 h)), (fun h => by first | exact f11 (by rwa [set_other (by decide)] at h) | (rw [set_other (by decide)] at h ⊢; exact f11 h)), (fun h => by first | exact f12 (by rwa [set_other (by decide)] at h) | (rw [set_other (by decide)] at h ⊢; exact f12 h))⟩
                    · refine inv_op rfl (fun K hK => ?_)
                      try simp only [Act.put, List.setIfInBounds_toArray, List.set_cons_zero, List.set_cons_succ]
                      go_simp
                      refine hK.out _ _ ⟨x22, x23, x121, x122, .int .i64 (i : Int), x124, x125, x126, x127, x128, x129, (by simp only [Act.put, List.setIfInBounds_toArray, List.set_cons_zero, List.set_cons_succ]), f0, (fun h => by first | exact f1 (by rwa [set_other (by decide)] at h) | (rw [set_other (by decide)] at h ⊢; exact f1 h)), (fun _ => rfl), (fun h => by first | exact f3 (by rwa [set_other (by decide)] at h) | (rw [set_other (by decide)] at h ⊢; exact f3 h)), (fun h => by first | exact f4 (by rwa [set_other (by decide)] at h) | (rw [set_other (by decide)] at h ⊢; exact f4 h)), (fun h => by first | exact f5 (by rwa [set_other (by decide)] at h) | (rw [set_other (by decide)] at h ⊢; exact f5 h)), (fun h => by first | exact f6 (by rwa [set_other (by decide)] at h) | (rw [set_other (by decide)] at h ⊢; exact f6 h)), (fun h => by first | exact f7 (by rwa [set_other (by decide)] at h) | (rw [set_other (by decide)] at h ⊢; exact f7 h)), (fun h => by first | exact f8 (by rwa [set_other (by decide)] at h) | (rw [set_other (by decide)] at h ⊢; exact f8 h)), (fun h => by first | exact f9 (by rwa [set_other (by decide)] at h) | (rw [set_other (by decide)] at h ⊢; exact f9 h)), (fun h => by first | exact f10 (by rwa [set_other (by decide)] at h) | (rw [set_other (by decide)] at h ⊢; exact f10 h)), (fun h => by first | exact f11 (by rwa [set_other (by decide)] at h) | (rw [set_other (by decide)] at h ⊢; exact f11 h)), (fun h => by first | exact f12 (by rwa [set_other (by decide)] at h) | (rw [set_other (by decide)] at h ⊢; exact f12 h))⟩
                    · obtain rfl := f1 (ready_dep hr (d := 0) (by kernel_rfl))
                      obtain rfl := f2 (ready_dep hr (d := 1) (by kernel_rfl))
                      refine inv_op rfl (fun K hK => ?_)
                      try simp only [Act.put, List.setIfInBounds_toArray, List.set_cons_zero, List.set_cons_succ]
                      go_simp
                      refine hK.out _ _ ⟨x22, x23, x121, .slice (some ⟨gq, 0, none⟩) flows.length flows.length, .int .i64 (i : Int), .pointer (some ⟨gq, i * 2, none⟩), x125, x126, x127, x128, x129, (by simp only [Act.put, List.setIfInBounds_toArray, List.set_cons_zero, List.set_cons_succ]), f0, (fun _ => rfl), (fun _ => rfl), (fun _ => rfl), (fun h => by first | exact f4 (by rwa [set_other (by decide)] at h) | (rw [set_other (by decide)] at h ⊢; exact f4 h)), (fun h => by first | exact f5 (by rwa [set_other (by decide)] at h) | (rw [set_other (by decide)] at h ⊢; exact f5 h)), (fun h => by first | exact f6 (by rwa [set_other (by decide)] at h) | (rw [set_other (by decide)] at h ⊢; exact f6 h)), (fun h => by first | exact f7 (by rwa [set_other (by decide)] at h) | (rw [set_other (by decide)] at h ⊢; exact f7 h)), (fun h => by first | exact f8 (by rwa [set_other (by decide)] at h) | (rw [set_other (by decide)] at h ⊢; exact f8 h)), (fun h => by first | exact f9 (by rwa [set_other (by decide)] at h) | (rw [set_other (by decide)] at h ⊢; exact f9 h)), (fun h => by first | exact f10 (by rwa [set_other (by decide)] at h) | (rw [set_other (by decide)] at h ⊢; exact f10 h)), (fun h => by first | exact f11 (by rwa [set_other (by decide)] at h) | (rw [set_other (by decide)] at h ⊢; exact f11 h)), (fun h => by first | exact f12 (by rwa [set_other (by decide)] at h) | (rw [set_other (by decide)] at h ⊢; exact f12 h))⟩
                    · obtain rfl := f3 (ready_dep hr (d := 2) (by kernel_rfl))
                      have HH := HZ.out.1.new_ f0
                      have k0 := HH.ke.cell 0 (v := .int .i64 (kk : Int)) rfl
                      have k1 := HH.ke.cell 1 (v := .int .i64 1) rfl
                      have r0 := HH.rr.cell ccell_len HRG.out (j := 0) rfl
                      have r1 := HH.rr.cell ccell_len HRG.out (j := 1) rfl
                      simp only [Nat.add_zero] at r0
                      refine inv_op rfl (fun K hK => ?_)
                      try simp only [Act.put, List.setIfInBounds_toArray, List.set_cons_zero, List.set_cons_succ]
                      go_simp
                      refine hK.out _ _ ⟨x22, x23, x121, x122, x123, .pointer (some ⟨gq, i * 2, none⟩), .agg #[.int .i64 r.n, .int .i64 r.d], x126, x127, x128, x129, (by simp only [Act.put, List.setIfInBounds_toArray, List.set_cons_zero, List.set_cons_succ]), f0, (fun h => by first | exact f1 (by rwa [set_other (by decide)] at h) | (rw [set_other (by decide)] at h ⊢; exact f1 h)), (fun h => by first | exact f2 (by rwa [set_other (by decide)] at h) | (rw [set_other (by decide)] at h ⊢; exact f2 h)), (fun _ => rfl), (fun _ => rfl), (fun h => by first | exact f5 (by rwa [set_other (by decide)] at h) | (rw [set_other (by decide)] at h ⊢; exact f5 h)), (fun h => by first | exact f6 (by rwa [set_other (by decide)] at h) | (rw [set_other (by decide)] at h ⊢; exact f6 h)), (fun h => by first | exact f7 (by rwa [set_other (by decide)] at h) | (rw [set_other (by decide)] at h ⊢; exact f7 h)), (fun h => by first | exact f8 (by rwa [set_other (by decide)] at h) | (rw [set_other (by decide)] at h ⊢; exact f8 h)), (fun h => by first | exact f9 (by rwa [set_other (by decide)] at h) | (rw [set_other (by decide)] at h ⊢; exact f9 h)), (fun h => by first | exact f10 (by rwa [set_other (by decide)] at h) | (rw [set_other (by decide)] at h ⊢; exact f10 h)), (fun h => by first | exact f11 (by rwa [set_other (by decide)] at h) | (rw [set_other (by decide)] at h ⊢; exact f11 h)), (fun h => by first | exact f12 (by rwa [set_other (by decide)] at h) | (rw [set_other (by decide)] at h ⊢; exact f12 h))⟩
                    · have HH := HZ.out.1.new_ f0
                      have k0 := HH.ke.cell 0 (v := .int .i64 (kk : Int)) rfl
                      have k1 := HH.ke.cell 1 (v := .int .i64 1) rfl
                      have r0 := HH.rr.cell ccell_len HRG.out (j := 0) rfl
                      have r1 := HH.rr.cell ccell_len HRG.out (j := 1) rfl
                      simp only [Nat.add_zero] at r0
                      refine inv_op rfl (fun K hK => ?_)
                      try simp only [Act.put, List.setIfInBounds_toArray, List.set_cons_zero, List.set_cons_succ]
                      go_simp
                      refine hK.out _ _ ⟨x22, x23, x121, x122, x123, x124, x125, .agg #[.int .i64 (kk : Int), .int .i64 1], x127, x128, x129, (by simp only [Act.put, List.setIfInBounds_toArray, List.set_cons_zero, List.set_cons_succ]), f0, (fun h => by first | exact f1 (by rwa [set_other (by decide)] at h) | (rw [set_other (by decide)] at h ⊢; exact f1 h)), (fun h => by first | exact f2 (by rwa [set_other (by decide)] at h) | (rw [set_other (by decide)] at h ⊢; exact f2 h)), (fun h => by first | exact f3 (by rwa [set_other (by decide)] at h) | (rw [set_other (by decide)] at h ⊢; exact f3 h)), (fun h => by first | exact f4 (by rwa [set_other (by decide)] at h) | (rw [set_other (by decide)] at h ⊢; exact f4 h)), (fun _ => rfl), (fun h => by first | exact f6 (by rwa [set_other (by decide)] at h) | (rw [set_other (by decide)] at h ⊢; exact f6 h)), (fun h => by first | exact f7 (by rwa [set_other (by decide)] at h) | (rw [set_other (by decide)] at h ⊢; exact f7 h)), (fun h => by first | exact f8 (by rwa [set_other (by decide)] at h) | (rw [set_other (by decide)] at h ⊢; exact f8 h)), (fun h => by first | exact f9 (by rwa [set_other (by decide)] at h) | (rw [set_other (by decide)] at h ⊢; exact f9 h)), (fun h => by first | exact f10 (by rwa [set_other (by decide)] at h) | (rw [set_other (by decide)] at h ⊢; exact f10 h)), (fun h => by first | exact f11 (by rwa [set_other (by decide)] at h) | (rw [set_other (by decide)] at h ⊢; exact f11 h)), (fun h => by first | exact f12 (by rwa [set_other (by decide)] at h) | (rw [set_other (by decide)] at h ⊢; exact f12 h))⟩
                    · obtain rfl := f4 (ready_dep hr (d := 3) (by kernel_rfl))
                      obtain rfl := f5 (ready_dep hr (d := 4) (by kernel_rfl))
                      refine inv_op rfl (fun K hK => ?_)
                      try simp only [Act.put, List.setIfInBounds_toArray, List.set_cons_zero, List.set_cons_succ]
                      go_simp
                      refine (MU _).mono ?_
                      rintro e w9 ⟨rfl, hb9⟩
                      try simp only []
                      refine hK.out _ _ ⟨x22, x23, x121, x122, x123, x124, .agg #[.int .i64 r.n, .int .i64 r.d], .agg #[.int .i64 (kk : Int), .int .i64 1], .tuple #[.agg #[.int .i64 Q.n, .int .i64 Q.d], .int .i64 0], x128, x129, (by simp only [Act.put, List.setIfInBounds_toArray, List.set_cons_zero, List.set_cons_succ]), join f0 hb9, (fun h => by first | exact f1 (by rwa [set_other (by decide)] at h) | (rw [set_other (by decide)] at h ⊢; exact f1 h)), (fun h => by first | exact f2 (by rwa [set_other (by decide)] at h) | (rw [set_other (by decide)] at h ⊢; exact f2 h)), (fun h => by first | exact f3 (by rwa [set_other (by decide)] at h) | (rw [set_other (by decide)] at h ⊢; exact f3 h)), (fun _ => rfl), (fun _ => rfl), (fun _ => rfl), (fun h => by first | exact f7 (by rwa [set_other (by decide)] at h) | (rw [set_other (by decide)] at h ⊢; exact f7 h)), (fun h => by first | exact f8 (by rwa [set_other (by decide)] at h) | (rw [set_other (by decide)] at h ⊢; exact f8 h)), (fun h => by first | exact f9 (by rwa [set_other (by decide)] at h) | (rw [set_other (by decide)] at h ⊢; exact f9 h)), (fun h => by first | exact f10 (by rwa [set_other (by decide)] at h) | (rw [set_other (by decide)] at h ⊢; exact f10 h)), (fun h => by rw [set_other (by decide)] at h ⊢; obtain ⟨b, e, hb, hB⟩ := f11 h; exact ⟨b, e, hb, hB.new_ hb9⟩), (fun h => by first | exact f12 (by rwa [set_other (by decide)] at h) | (rw [set_other (by decide)] at h ⊢; exact f12 h))⟩
                    · obtain rfl := f6 (ready_dep hr (d := 5) (by kernel_rfl))
                      refine inv_op rfl (fun K hK => ?_)
                      try simp only [Act.put, List.setIfInBounds_toArray, List.set_cons_zero, List.set_cons_succ]
                      go_simp
                      refine hK.out _ _ ⟨x22, x23, .tuple #[.agg #[.int .i64 Q.n, .int .i64 Q.d], .int .i64 0], x122, x123, x124, x125, x126, .tuple #[.agg #[.int .i64 Q.n, .int .i64 Q.d], .int .i64 0], x128, x129, (by simp only [Act.put, List.setIfInBounds_toArray, List.set_cons_zero, List.set_cons_succ]), f0, (fun h => by first | exact f1 (by rwa [set_other (by decide)] at h) | (rw [set_other (by decide)] at h ⊢; exact f1 h)), (fun h => by first | exact f2 (by rwa [set_other (by decide)] at h) | (rw [set_other (by decide)] at h ⊢; exact f2 h)), (fun h => by first | exact f3 (by rwa [set_other (by decide)] at h) | (rw [set_other (by decide)] at h ⊢; exact f3 h)), (fun h => by first | exact f4 (by rwa [set_other (by decide)] at h) | (rw [set_other (by decide)] at h ⊢; exact f4 h)), (fun h => by first | exact f5 (by rwa [set_other (by decide)] at h) | (rw [set_other (by decide)] at h ⊢; exact f5 h)), (fun _ => rfl), (fun _ => rfl), (fun h => by first | exact f8 (by rwa [set_other (by decide)] at h) | (rw [set_other (by decide)] at h ⊢; exact f8 h)), (fun h => by first | exact f9 (by rwa [set_other (by decide)] at h) | (rw [set_other (by decide)] at h ⊢; exact f9 h)), (fun h => by first | exact f10 (by rwa [set_other (by decide)] at h) | (rw [set_other (by decide)] at h ⊢; exact f10 h)), (fun h => by first | exact f11 (by rwa [set_other (by decide)] at h) | (rw [set_other (by decide)] at h ⊢; exact f11 h)), (fun h => by first | exact f12 (by rwa [set_other (by decide)] at h) | (rw [set_other (by decide)] at h ⊢; exact f12 h))⟩
                    · obtain rfl := f7 (ready_dep hr (d := 6) (by kernel_rfl))
                      refine inv_op rfl (fun K hK => ?_)
                      try simp only [Act.put, List.setIfInBounds_toArray, List.set_cons_zero, List.set_cons_succ]
                      go_simp
                      refine hK.out _ _ ⟨x22, x23, .tuple #[.agg #[.int .i64 Q.n, .int .i64 Q.d], .int .i64 0], x122, x123, x124, x125, x126, x127, .agg #[.int .i64 Q.n, .int .i64 Q.d], x129, (by simp only [Act.put, List.setIfInBounds_toArray, List.set_cons_zero, List.set_cons_succ]), f0, (fun h => by first | exact f1 (by rwa [set_other (by decide)] at h) | (rw [set_other (by decide)] at h ⊢; exact f1 h)), (fun h => by first | exact f2 (by rwa [set_other (by decide)] at h) | (rw [set_other (by decide)] at h ⊢; exact f2 h)), (fun h => by first | exact f3 (by rwa [set_other (by decide)] at h) | (rw [set_other (by decide)] at h ⊢; exact f3 h)), (fun h => by first | exact f4 (by rwa [set_other (by decide)] at h) | (rw [set_other (by decide)] at h ⊢; exact f4 h)), (fun h => by first | exact f5 (by rwa [set_other (by decide)] at h) | (rw [set_other (by decide)] at h ⊢; exact f5 h)), (fun h => by first | exact f6 (by rwa [set_other (by decide)] at h) | (rw [set_other (by decide)] at h ⊢; exact f6 h)), (fun _ => rfl), (fun _ => rfl), (fun h => by first | exact f9 (by rwa [set_other (by decide)] at h) | (rw [set_other (by decide)] at h ⊢; exact f9 h)), (fun h => by first | exact f10 (by rwa [set_other (by decide)] at h) | (rw [set_other (by decide)] at h ⊢; exact f10 h)), (fun h => by first | exact f11 (by rwa [set_other (by decide)] at h) | (rw [set_other (by decide)] at h ⊢; exact f11 h)), (fun h => by first | exact f12 (by rwa [set_other (by decide)] at h) | (rw [set_other (by decide)] at h ⊢; exact f12 h))⟩
                    · obtain rfl := f7 (ready_dep hr (d := 6) (by kernel_rfl))
                      refine inv_op rfl (fun K hK => ?_)
                      try simp only [Act.put, List.setIfInBounds_toArray, List.set_cons_zero, List.set_cons_succ]
                      go_simp
                      refine hK.out _ _ ⟨x22, x23, .tuple #[.agg #[.int .i64 Q.n, .int .i64 Q.d], .int .i64 0], x122, x123, x124, x125, x126, x127, x128, .int .i64 0, (by simp only [Act.put, List.setIfInBounds_toArray, List.set_cons_zero, List.set_cons_succ]), f0, (fun h => by first | exact f1 (by rwa [set_other (by decide)] at h) | (rw [set_other (by decide)] at h ⊢; exact f1 h)), (fun h => by first | exact f2 (by rwa [set_other (by decide)] at h) | (rw [set_other (by decide)] at h ⊢; exact f2 h)), (fun h => by first | exact f3 (by rwa [set_other (by decide)] at h) | (rw [set_other (by decide)] at h ⊢; exact f3 h)), (fun h => by first | exact f4 (by rwa [set_other (by decide)] at h) | (rw [set_other (by decide)] at h ⊢; exact f4 h)), (fun h => by first | exact f5 (by rwa [set_other (by decide)] at h) | (rw [set_other (by decide)] at h ⊢; exact f5 h)), (fun h => by first | exact f6 (by rwa [set_other (by decide)] at h) | (rw [set_other (by decide)] at h ⊢; exact f6 h)), (fun _ => rfl), (fun h => by first | exact f8 (by rwa [set_other (by decide)] at h) | (rw [set_other (by decide)] at h ⊢; exact f8 h)), (fun _ => rfl), (fun h => by first | exact f10 (by rwa [set_other (by decide)] at h) | (rw [set_other (by decide)] at h ⊢; exact f10 h)), (fun h => by first | exact f11 (by rwa [set_other (by decide)] at h) | (rw [set_other (by decide)] at h ⊢; exact f11 h)), (fun h => by first | exact f12 (by rwa [set_other (by decide)] at h) | (rw [set_other (by decide)] at h ⊢; exact f12 h))⟩
                    · have h10 : L.getD 10 false = false := by
                        cases hh : L.getD 10 false with
                        | false => rfl
                        | true => exact absurd (f12 hh) (by rw [ready_not hr]; decide)
                      refine inv_op rfl (fun K hK => ?_)
                      try simp only [Act.put, List.setIfInBounds_toArray, List.set_cons_zero, List.set_cons_succ]
                      go_simp
                      refine hK.out _ _ ⟨.pointer (some ⟨w1z.heap.size, 0, none⟩), x23, x121, x122, x123, x124, x125, x126, x127, x128, x129, (by simp only [Act.put, List.setIfInBounds_toArray, List.set_cons_zero, List.set_cons_succ]), f0.alloc f0.size _, (fun h => by first | exact f1 (by rwa [set_other (by decide)] at h) | (rw [set_other (by decide)] at h ⊢; exact f1 h)), (fun h => by first | exact f2 (by rwa [set_other (by decide)] at h) | (rw [set_other (by decide)] at h ⊢; exact f2 h)), (fun h => by first | exact f3 (by rwa [set_other (by decide)] at h) | (rw [set_other (by decide)] at h ⊢; exact f3 h)), (fun h => by first | exact f4 (by rwa [set_other (by decide)] at h) | (rw [set_other (by decide)] at h ⊢; exact f4 h)), (fun h => by first | exact f5 (by rwa [set_other (by decide)] at h) | (rw [set_other (by decide)] at h ⊢; exact f5 h)), (fun h => by first | exact f6 (by rwa [set_other (by decide)] at h) | (rw [set_other (by decide)] at h ⊢; exact f6 h)), (fun h => by first | exact f7 (by rwa [set_other (by decide)] at h) | (rw [set_other (by decide)] at h ⊢; exact f7 h)), (fun h => by first | exact f8 (by rwa [set_other (by decide)] at h) | (rw [set_other (by decide)] at h ⊢; exact f8 h)), (fun h => by first | exact f9 (by rwa [set_other (by decide)] at h) | (rw [set_other (by decide)] at h ⊢; exact f9 h)), (fun h => by first | exact f10 (by rwa [set_other (by decide)] at h) | (rw [set_other (by decide)] at h ⊢; exact f10 h)), (fun _ => ⟨w1z.heap.size, rfl, f0.size, by rw [set_other (by decide), h10]; exact Blk.new _ _ _⟩), (fun h => set_self hr)⟩
                    · have h10 := ready_not hr
                      have ha := ready_dep hr (d := 9) (by kernel_rfl)
                      obtain ⟨b, eb, hb, hB⟩ := f11 ha
                      rw [h10] at hB
                      have q0 := hB.cell 0 (v := .int .i64 0) rfl
                      have q1 := hB.cell 1 (v := .int .i64 0) rfl
                      have q2 := hB.free 0
                      have q3 := hB.free 1
                      have q4 := hB.lt
                      obtain rfl := f8 (ready_dep hr (d := 7) (by kernel_rfl))
                      subst eb
                      refine inv_op rfl (fun K hK => ?_)
                      try simp only [Act.put, List.setIfInBounds_toArray, List.set_cons_zero, List.set_cons_succ]
                      go_simp
                      refine hK.out _ _ ⟨(.pointer (some ⟨b, 0, none⟩)), x23, x121, x122, x123, x124, x125, x126, x127, .agg #[.int .i64 Q.n, .int .i64 Q.d], x129, (by simp only [Act.put, List.setIfInBounds_toArray, List.set_cons_zero, List.set_cons_succ]), ((f0.setCell hb _).setCell hb _), (fun h => by first | exact f1 (by rwa [set_other (by decide)] at h) | (rw [set_other (by decide)] at h ⊢; exact f1 h)), (fun h => by first | exact f2 (by rwa [set_other (by decide)] at h) | (rw [set_other (by decide)] at h ⊢; exact f2 h)), (fun h => by first | exact f3 (by rwa [set_other (by decide)] at h) | (rw [set_other (by decide)] at h ⊢; exact f3 h)), (fun h => by first | exact f4 (by rwa [set_other (by decide)] at h) | (rw [set_other (by decide)] at h ⊢; exact f4 h)), (fun h => by first | exact f5 (by rwa [set_other (by decide)] at h) | (rw [set_other (by decide)] at h ⊢; exact f5 h)), (fun h => by first | exact f6 (by rwa [set_other (by decide)] at h) | (rw [set_other (by decide)] at h ⊢; exact f6 h)), (fun h => by first | exact f7 (by rwa [set_other (by decide)] at h) | (rw [set_other (by decide)] at h ⊢; exact f7 h)), (fun _ => rfl), (fun h => by first | exact f9 (by rwa [set_other (by decide)] at h) | (rw [set_other (by decide)] at h ⊢; exact f9 h)), (fun h => by first | exact f10 (by rwa [set_other (by decide)] at h) | (rw [set_other (by decide)] at h ⊢; exact f10 h)), (fun _ => ⟨b, rfl, hb, by rw [set_self hr]; exact (hB.set_ 0 _).to 1 _ rfl⟩), (fun _ => by rw [set_other (by decide)]; exact ha)⟩
                    · obtain rfl := f9 (ready_dep hr (d := 8) (by kernel_rfl))
                      refine inv_op rfl (fun K hK => ?_)
                      try simp only [Act.put, List.setIfInBounds_toArray, List.set_cons_zero, List.set_cons_succ]
                      go_simp
                      refine hK.out _ _ ⟨x22, .int .i64 0, x121, x122, x123, x124, x125, x126, x127, x128, .int .i64 0, (by simp only [Act.put, List.setIfInBounds_toArray, List.set_cons_zero, List.set_cons_succ]), f0, (fun h => by first | exact f1 (by rwa [set_other (by decide)] at h) | (rw [set_other (by decide)] at h ⊢; exact f1 h)), (fun h => by first | exact f2 (by rwa [set_other (by decide)] at h) | (rw [set_other (by decide)] at h ⊢; exact f2 h)), (fun h => by first | exact f3 (by rwa [set_other (by decide)] at h) | (rw [set_other (by decide)] at h ⊢; exact f3 h)), (fun h => by first | exact f4 (by rwa [set_other (by decide)] at h) | (rw [set_other (by decide)] at h ⊢; exact f4 h)), (fun h => by first | exact f5 (by rwa [set_other (by decide)] at h) | (rw [set_other (by decide)] at h ⊢; exact f5 h)), (fun h => by first | exact f6 (by rwa [set_other (by decide)] at h) | (rw [set_other (by decide)] at h ⊢; exact f6 h)), (fun h => by first | exact f7 (by rwa [set_other (by decide)] at h) | (rw [set_other (by decide)] at h ⊢; exact f7 h)), (fun h => by first | exact f8 (by rwa [set_other (by decide)] at h) | (rw [set_other (by decide)] at h ⊢; exact f8 h)), (fun _ => rfl), (fun _ => rfl), (fun h => by first | exact f11 (by rwa [set_other (by decide)] at h) | (rw [set_other (by decide)] at h ⊢; exact f11 h)), (fun h => by first | exact f12 (by rwa [set_other (by decide)] at h) | (rw [set_other (by decide)] at h ⊢; exact f12 h))⟩
                  case done =>
                    intro L az w1z hI hall
                    obtain ⟨x22, x23, x121, x122, x123, x124, x125, x126, x127, x128, x129, rfl, f0, f1, f2, f3, f4, f5, f6, f7, f8, f9, f10, f11, f12⟩ := hI
                    subst haq
                    simp only [Act.put, List.setIfInBounds_toArray, List.set_cons_zero, List.set_cons_succ]
                    go_wp2_with fail
                    go_meet
                    obtain ⟨b22, e22, -, hB22⟩ := f11 (hall 9 (by decide))
                    rw [hall 10 (by decide)] at hB22
                    exact ⟨b22, e22, f10 (hall 11 (by decide)), ⟨hB22, f0⟩⟩
                case rest =>
                  obtain ⟨b22, rfl, rfl, HB22⟩ := hcut
                  have HX : Kept ((SA w wc ⟨caps, cA, ck, flows, fA, fk⟩ gq rs b11 #[.int .i64 (kk : Int), .int .i64 1] b12 (.slice A cs.length kp) (.slice A1 fs.length kp1) cs fs bb ∧ RowBlk wc gq1 32 ccell rs1) ∧ Blk wc b22 32 #[.int .i64 Q.n, .int .i64 Q.d]) := ⟨⟨HZ.out.1.new_ HB22.out.2, HZ.out.2.new_ HB22.out.2⟩, HB22.out.1⟩
                  clear HZ HB22
                  have HX1 : Kept ((SA w (wc.drewN 1) ⟨caps, cA, ck, flows, fA, fk⟩ gq rs b11 #[.int .i64 (kk : Int), .int .i64 1] b12 (.slice A cs.length kp) (.slice A1 fs.length kp1) cs fs bb ∧ RowBlk (wc.drewN 1) gq1 32 ccell rs1) ∧ Blk (wc.drewN 1) b22 32 #[.int .i64 Q.n, .int .i64 Q.d]) := ⟨⟨HX.out.1.1.new_ (dN (Below.refl _ _) 1), HX.out.1.2.new_ (dN (Below.refl _ _) 1)⟩, HX.out.2.new_ (dN (Below.refl _ _) 1)⟩
                  go_upto_region 29 with fail
                  refine wp_region_held_drew (S := fun w' => w'.cell? ⟨b22, 0, none⟩ = some (.int .i64 Q.n) ∧ w'.cell? ⟨b22, 1, none⟩ = some (.int .i64 Q.d) ∧ w'.cell? ⟨gq1, i * 2, none⟩ = some (.int .i64 r1.n) ∧ w'.cell? ⟨gq1, i * 2 + 1, none⟩ = some (.int .i64 r1.d)) (by kernel_rfl) (by (try dsimp only); (first | exact s3_keep HX2.out.2 HX2.out.1.2 HRG1.out | exact s3_keep HX1.out.2 HX1.out.1.2 HRG1.out)) (fun hHeld => ?_)
                  refine wpAnyH_take (i := 0) (v := ?_) rfl (by kernel_rfl) (by kernel_rfl) (by kernel_rfl) (fun _ _ _ h => h) (Or.inl ⟨by rfl, ?_⟩) (by assumption) ?_; rotate_left; (intro w hSw; (try dsimp only at hSw); go_simp; try (with_reducible rfl)); try simp only [Act.put, List.setIfInBounds_toArray, List.set_cons_zero, List.set_cons_succ, List.getElem_toArray, List.getElem_cons_succ, List.getElem_cons_zero]
                  refine wpAnyH_take (i := 1) (v := ?_) rfl (by kernel_rfl) (by kernel_rfl) (by kernel_rfl) (fun _ _ _ h => h) (Or.inl ⟨by rfl, ?_⟩) (by assumption) ?_; rotate_left; (intro w hSw; (try dsimp only at hSw); go_simp; try (with_reducible rfl)); try simp only [Act.put, List.setIfInBounds_toArray, List.set_cons_zero, List.set_cons_succ, List.getElem_toArray, List.getElem_cons_succ, List.getElem_cons_zero]
                  refine wpAnyH_take (i := 2) (v := ?_) rfl (by kernel_rfl) (by kernel_rfl) (by kernel_rfl) (fun _ _ _ h => h) (Or.inl ⟨by rfl, ?_⟩) (by assumption) ?_; rotate_left; (intro w hSw; (try dsimp only at hSw); go_simp; try (with_reducible rfl)); try simp only [Act.put, List.setIfInBounds_toArray, List.set_cons_zero, List.set_cons_succ, List.getElem_toArray, List.getElem_cons_succ, List.getElem_cons_zero]
                  refine wpAnyH_take (i := 3) (v := ?_) rfl (by kernel_rfl) (by kernel_rfl) (by kernel_rfl) (fun _ _ _ h => h) (Or.inl ⟨by rfl, ?_⟩) (by assumption) ?_; rotate_left; (intro w hSw; (try dsimp only at hSw); go_simp; try (with_reducible rfl)); try simp only [Act.put, List.setIfInBounds_toArray, List.set_cons_zero, List.set_cons_succ, List.getElem_toArray, List.getElem_cons_succ, List.getElem_cons_zero]
                  refine wpAnyH_take (i := 4) (v := ?_) rfl (by kernel_rfl) (by kernel_rfl) (by kernel_rfl) (fun _ _ _ h => h) (Or.inl ⟨by rfl, ?_⟩) (by assumption) ?_; rotate_left; (intro w hSw; (try dsimp only at hSw); go_simp; try (with_reducible rfl)); try simp only [Act.put, List.setIfInBounds_toArray, List.set_cons_zero, List.set_cons_succ, List.getElem_toArray, List.getElem_cons_succ, List.getElem_cons_zero]
                  refine wpAnyH_take (i := 5) (v := ?_) rfl (by kernel_rfl) (by kernel_rfl) (by kernel_rfl) (fun _ _ _ h => h) (Or.inl ⟨by rfl, ?_⟩) (by assumption) ?_; rotate_left; (intro w hSw; (try dsimp only at hSw); go_simp; try (with_reducible rfl)); try simp only [Act.put, List.setIfInBounds_toArray, List.set_cons_zero, List.set_cons_succ, List.getElem_toArray, List.getElem_cons_succ, List.getElem_cons_zero]
                  refine wpAnyH_take (i := 6) (v := ?_) rfl (by kernel_rfl) (by kernel_rfl) (by kernel_rfl) (fun _ _ _ h => h) (Or.inl ⟨by rfl, ?_⟩) (by assumption) ?_; rotate_left; (intro w hSw; (try dsimp only at hSw); go_simp; try (with_reducible rfl)); try simp only [Act.put, List.setIfInBounds_toArray, List.set_cons_zero, List.set_cons_succ, List.getElem_toArray, List.getElem_cons_succ, List.getElem_cons_zero]
                  refine wpAnyH_take (i := 7) (v := ?_) rfl (by kernel_rfl) (by kernel_rfl) (by kernel_rfl) (fun _ _ _ h => h) (Or.inl ⟨by rfl, ?_⟩) (by assumption) ?_; rotate_left; (intro w hSw; (try dsimp only at hSw); go_simp; try (with_reducible rfl)); try simp only [Act.put, List.setIfInBounds_toArray, List.set_cons_zero, List.set_cons_succ, List.getElem_toArray, List.getElem_cons_succ, List.getElem_cons_zero]
                  refine wpAnyH_ready (rs := [8]) (by kernel_rfl) (by simp) ?_; refine AllReadyH.cons rfl (fun K hK => ?_) AllReadyH.nil; go_simp
                  refine (CM _).mono ?_; rintro e wq ⟨rfl, hbq⟩; have HX2 : Kept ((SA w wq ⟨caps, cA, ck, flows, fA, fk⟩ gq rs b11 #[.int .i64 (kk : Int), .int .i64 1] b12 (.slice A cs.length kp) (.slice A1 fs.length kp1) cs fs bb ∧ RowBlk wq gq1 32 ccell rs1) ∧ Blk wq b22 32 #[.int .i64 Q.n, .int .i64 Q.d]) := ⟨⟨HX1.out.1.1.new_ hbq, HX1.out.1.2.new_ hbq⟩, HX1.out.2.new_ hbq⟩; clear hbq
                  try go_wp2_with fail
                  refine hK.out _ _ (by (try dsimp only); (first | exact s3_keep HX2.out.2 HX2.out.1.2 HRG1.out | exact s3_keep HX1.out.2 HX1.out.1.2 HRG1.out)) (fun hHeld => ?_); clear hK K; try simp only [Act.put, List.setIfInBounds_toArray, List.set_cons_zero, List.set_cons_succ, List.getElem_toArray, List.getElem_cons_succ, List.getElem_cons_zero]
                  refine wpAnyH_take (i := 9) (v := ?_) rfl (by kernel_rfl) (by kernel_rfl) (by kernel_rfl) (fun _ _ _ h => h) (Or.inl ⟨by rfl, ?_⟩) (by assumption) ?_; rotate_left; (intro w hSw; (try dsimp only at hSw); go_simp; try (with_reducible rfl)); try simp only [Act.put, List.setIfInBounds_toArray, List.set_cons_zero, List.set_cons_succ, List.getElem_toArray, List.getElem_cons_succ, List.getElem_cons_zero]
                  refine wpAnyH_take (i := 10) (v := ?_) rfl (by kernel_rfl) (by kernel_rfl) (by kernel_rfl) (fun _ _ _ h => h) (Or.inl ⟨by rfl, ?_⟩) (by assumption) ?_; rotate_left; (intro w hSw; (try dsimp only at hSw); go_simp; try (with_reducible rfl)); try simp only [Act.put, List.setIfInBounds_toArray, List.set_cons_zero, List.set_cons_succ, List.getElem_toArray, List.getElem_cons_succ, List.getElem_cons_zero]
                  refine wpAnyH_done (by kernel_rfl) ?_ _
                  go_wp2_with fail
                  go_roundw
                  case rel => exact ⟨i + 1, by omega, by go_num, ⟨HX2.out.1⟩⟩
                  case measure => simp [intOf]; omega
              · obtain rfl : i = flows.length := by omega
                have n0 := HS3.out.1.x.cell 0 (v := .slice cA caps.length ck) rfl; have n1 := HS3.out.1.x.cell 1 (v := .slice fA flows.length fk) rfl; have nl := HS3.out.1.x.lt
                by_cases h0 : flows.length = 0
                · have hz0 : ((flows.length : Int) == 0) = true := by rw [h0]; rfl
                  have HB := Kept.mk HS3.out.1.blw
                  clear h0
                  go_wp2_with fail
                  go_ret
                  exact ⟨rfl, HB.out⟩
                · have hz0 : ((flows.length : Int) == 0) = false := beq_false_of_ne (by omega)
                  have hf1 : 1 ≤ flows.length := by omega
                  have hnl1 : 1 ≤ caps.length := by
                    obtain ⟨p, hp⟩ := get_some (l := flows) (k := 0) (by omega)
                    have h2 := HOK.out.lk p (List.mem_of_getElem? hp)
                    obtain ⟨x, hx⟩ := List.exists_mem_of_ne_nil _ h2.1
                    have := h2.2 x hx
                    dsimp only at this
                    omega
                  have hl9 := HL9.out
                  obtain ⟨l, hll⟩ : ∃ l : Nat, l9 % (caps.length : Int) = l := ⟨(l9 % (caps.length : Int)).toNat, by have := Int.emod_nonneg l9 (show (caps.length : Int) ≠ 0 by omega); omega⟩
                  have hlc : l < caps.length := by have := Int.emod_lt_of_pos l9 (show (0 : Int) < caps.length by omega); omega
                  have hlm : l9.tmod (caps.length : Int) = (l : Int) := by rw [Int.tmod_eq_emod_of_nonneg hl9.1]; exact hll
                  have hcz : ((caps.length : Int) == 0) = false := beq_false_of_ne (by omega)
                  have hcz2 : ¬ (caps.length : Int) = 0 := by omega
                  have hwl : IntKind.i64.wrap (l : Int) = l := IntWalk.i64_in _ (by omega)
                  have hwl9 : IntKind.i64.wrap l9 = l9 := IntWalk.i64_in _ (by omega)
                  clear h0 hll hl9
                  go_upto_region 35 with fail
                  obtain ⟨c, bC, oC, hc, rfl, -, hbC, -, -, c64⟩ := HS3.out.1.net.capAt hlc
                  dsimp only at hc
                  have HCG := Kept.mk hc
                  obtain ⟨Z, hZ, HZ⟩ : ∃ Z, Z = wr ∧ Kept (SA w Z ⟨caps, some ⟨bC, oC, none⟩, ck, flows, fA, fk⟩ gq rs b11 #[.int .i64 (kk : Int), .int .i64 1] b12 (.slice A cs.length kp) (.slice A1 fs.length kp1) cs fs bb) := ⟨_, rfl, ⟨HS3.out.1⟩⟩
                  rw [← hZ]
                  have CLN : ∀ W, Below Z.heap.size Z W → Calls Try.prog 10 #[.slice (some ⟨bC, oC, none⟩) caps.length ck] W (Clones W 32 2 caps.length (caps.flatMap ccell)) := fun W hb => cloneR_c _ _ _ _ W w.heap.size (HZ.out.new_ hb).net.cap.rd (Nat.le_trans HZ.out.blw.size hb.size) (fun u hu => by
                    simp only [List.mem_flatMap, ccell] at hu
                    obtain ⟨m, _, hm⟩ := hu
                    simp at hm
                    rcases hm with rfl | rfl <;> rfl) (by omega)
                  obtain ⟨i4, hi4, hz0', hz1', hz2'⟩ := info_parts infoR
                  clear hZ HS3 n0 n1 nl hc hlm hcz hwl9
                  go_cut [25] (fun s25 wx => ∃ (b25 : Nat) (A2 : Option Addr) (k2 : Nat), s25 = .pointer (some ⟨b25, 0, none⟩) ∧ Kept (Blk wx b25 25 #[.slice A2 (caps.length + 1) k2, .slice none 0 0] ∧ wx.ownsRow Z.heap.size 32 2 (.slice A2 (caps.length + 1) k2) (caps.length + 1) (caps.flatMap ccell ++ ccell c) ∧ Z.heap.size ≤ b25 ∧ Below Z.heap.size Z wx))
                  case first =>
                    refine with_act fun aq haq => ?_
                    refine wp_region_inv (fun L az w1z => ∃ (x25 x152 x153 x154 x155 x156 x157 x158 x159 x160 x161 x162 : Value), az = ((((((((((((aq.put (some 25) x25).put (some 152) x152).put (some 153) x153).put (some 154) x154).put (some 155) x155).put (some 156) x156).put (some 157) x157).put (some 158) x158).put (some 159) x159).put (some 160) x160).put (some 161) x161).put (some 162) x162) ∧ (Below Z.heap.size Z w1z) ∧ (L.getD 0 false = true → x152 = .pointer (some ⟨w.heap.size, 0, none⟩)) ∧ (L.getD 1 false = true → x153 = .slice (some ⟨bC, oC, none⟩) caps.length ck) ∧ (L.getD 2 false = true → ∃ (A : Option Addr) (k : Nat), x154 = .slice A caps.length k ∧ (L.getD 9 false = false → w1z.ownsRow Z.heap.size 32 2 (.slice A caps.length k) caps.length (caps.flatMap ccell))) ∧ (L.getD 3 false = true → x155 = .pointer (some ⟨w.heap.size, 0, none⟩)) ∧ (L.getD 4 false = true → x156 = .slice (some ⟨bC, oC, none⟩) caps.length ck) ∧ (L.getD 5 false = true → x157 = .int .i64 (l : Int)) ∧ (L.getD 6 false = true → x158 = .pointer (some ⟨bC, oC + l * 2, none⟩)) ∧ (L.getD 7 false = true → x159 = .agg #[.int .i64 c.n, .int .i64 c.d]) ∧ (L.getD 8 false = true → ∃ b : Nat, x160 = .slice (some ⟨b, 0, none⟩) 1 1 ∧ (L.getD 9 false = false → Z.heap.size ≤ b ∧ Blk w1z b 32 #[.int .i64 c.n, .int .i64 c.d])) ∧ (L.getD 9 false = true → ∃ (A : Option Addr) (k : Nat), x161 = .slice A (caps.length + 1) k ∧ w1z.ownsRow Z.heap.size 32 2 (.slice A (caps.length + 1) k) (caps.length + 1) ((caps.flatMap ccell) ++ ccell c)) ∧ (L.getD 10 false = true → x162 = .agg #[x161, .slice none 0 0]) ∧ (L.getD 11 false = true → ∃ b : Nat, x25 = .pointer (some ⟨b, 0, none⟩) ∧ Z.heap.size ≤ b ∧ Blk w1z b 25 (if L.getD 12 false = true then #[x161, .slice none 0 0] else #[.slice none 0 0, .slice none 0 0])) ∧ (L.getD 12 false = true → L.getD 11 false = true) ∧ (L.getD 12 false = true → L.getD 10 false = true) ∧ (L.getD 10 false = true → L.getD 9 false = true) ∧ (L.getD 9 false = true → L.getD 2 false = true) ∧ (L.getD 9 false = true → L.getD 8 false = true)) (by kernel_rfl) (by kernel_rfl) ?start ?oper ?done
                    case start =>
                      refine ⟨aq.tmps.getD 25 undef, aq.tmps.getD 152 undef, aq.tmps.getD 153 undef, aq.tmps.getD 154 undef, aq.tmps.getD 155 undef, aq.tmps.getD 156 undef, aq.tmps.getD 157 undef, aq.tmps.getD 158 undef, aq.tmps.getD 159 undef, aq.tmps.getD 160 undef, aq.tmps.getD 161 undef, aq.tmps.getD 162 undef, by subst haq; simp only [Act.put, List.setIfInBounds_toArray, List.set_cons_zero, List.set_cons_succ, Array.getD_eq_getD_getElem?, List.getElem?_toArray, List.getElem?_cons_zero, List.getElem?_cons_succ, Option.getD_some], dN (Below.refl Z.heap.size Z) 1, none_yet, none_yet, none_yet, none_yet, none_yet, none_yet, none_yet, none_yet, none_yet, none_yet, none_yet, none_yet, none_yet, none_yet, none_yet, none_yet, none_yet⟩
                    case oper =>
                      intro L az w1z i hI hr
                      obtain ⟨x25, x152, x153, x154, x155, x156, x157, x158, x159, x160, x161, x162, rfl, f0, f1, f2, f3, f4, f5, f6, f7, f8, f9, f10, f11, f12, f13, f14, f15, f16, f17⟩ := hI
                      subst haq
                      have hi : i < 13 := ready_lt hr
                      have hcase : i = 0 ∨ i = 1 ∨ i = 2 ∨ i = 3 ∨ i = 4 ∨ i = 5 ∨ i = 6 ∨ i = 7 ∨ i = 8 ∨ i = 9 ∨ i = 10 ∨ i = 11 ∨ i = 12 := by omega
                      clear hi
                      rcases hcase with rfl | rfl | rfl | rfl | rfl | rfl | rfl | rfl | rfl | rfl | rfl | rfl | rfl
                      · refine inv_op rfl (fun K hK => ?_)
                        try simp only [Act.put, List.setIfInBounds_toArray, List.set_cons_zero, List.set_cons_succ]
                        go_simp
                        refine hK.out _ _ ⟨x25, .pointer (some ⟨w.heap.size, 0, none⟩), x153, x154, x155, x156, x157, x158, x159, x160, x161, x162, (by simp only [Act.put, List.setIfInBounds_toArray, List.set_cons_zero, List.set_cons_succ]), f0, (fun _ => rfl), (fun h => by first | exact f2 (by rwa [set_other (by decide)] at h) | (rw [set_other (by decide)] at h ⊢; exact f2 h)), (fun h => by first | exact f3 (by rwa [set_other (by decide)] at h) | (rw [set_other (by decide)] at h ⊢; exact f3 h)), (fun h => by first | exact f4 (by rwa [set_other (by decide)] at h) | (rw [set_other (by decide)] at h ⊢; exact f4 h)), (fun h => by first | exact f5 (by rwa [set_other (by decide)] at h) | (rw [set_other (by decide)] at h ⊢; exact f5 h)), (fun h => by first | exact f6 (by rwa [set_other (by decide)] at h) | (rw [set_other (by decide)] at h ⊢; exact f6 h)), (fun h => by first | exact f7 (by rwa [set_other (by decide)] at h) | (rw [set_other (by decide)] at h ⊢; exact f7 h)), (fun h => by first | exact f8 (by rwa [set_other (by decide)] at h) | (rw [set_other (by decide)] at h ⊢; exact f8 h)), (fun h => by first | exact f9 (by rwa [set_other (by decide)] at h) | (rw [set_other (by decide)] at h ⊢; exact f9 h)), (fun h => by first | exact f10 (by rwa [set_other (by decide)] at h) | (rw [set_other (by decide)] at h ⊢; exact f10 h)), (fun h => by first | exact f11 (by rwa [set_other (by decide)] at h) | (rw [set_other (by decide)] at h ⊢; exact f11 h)), (fun h => by first | exact f12 (by rwa [set_other (by decide)] at h) | (rw [set_other (by decide)] at h ⊢; exact f12 h)), (fun h => by first | exact f13 (by rwa [set_other (by decide)] at h) | (rw [set_other (by decide)] at h ⊢; exact f13 h)), (fun h => by first | exact f14 (by rwa [set_other (by decide)] at h) | (rw [set_other (by decide)] at h ⊢; exact f14 h)), (fun h => by first | exact f15 (by rwa [set_other (by decide)] at h) | (rw [set_other (by decide)] at h ⊢; exact f15 h)), (fun h => by first | exact f16 (by rwa [set_other (by decide)] at h) | (rw [set_other (by decide)] at h ⊢; exact f16 h)), (fun h => by first | exact f17 (by rwa [set_other (by decide)] at h) | (rw [set_other (by decide)] at h ⊢; exact f17 h))⟩
                      · obtain rfl := f1 (ready_dep hr (d := 0) (by kernel_rfl))
                        have HH := HZ.out.new_ f0
                        have n0 := HH.x.cell 0 (v := .slice (some ⟨bC, oC, none⟩) caps.length ck) rfl
                        have nl := HH.x.lt
                        refine inv_op rfl (fun K hK => ?_)
                        try simp only [Act.put, List.setIfInBounds_toArray, List.set_cons_zero, List.set_cons_succ]
                        go_simp
                        refine hK.out _ _ ⟨x25, .pointer (some ⟨w.heap.size, 0, none⟩), .slice (some ⟨bC, oC, none⟩) caps.length ck, x154, x155, x156, x157, x158, x159, x160, x161, x162, (by simp only [Act.put, List.setIfInBounds_toArray, List.set_cons_zero, List.set_cons_succ]), f0, (fun _ => rfl), (fun _ => rfl), (fun h => by first | exact f3 (by rwa [set_other (by decide)] at h) | (rw [set_other (by decide)] at h ⊢; exact f3 h)), (fun h => by first | exact f4 (by rwa [set_other (by decide)] at h) | (rw [set_other (by decide)] at h ⊢; exact f4 h)), (fun h => by first | exact f5 (by rwa [set_other (by decide)] at h) | (rw [set_other (by decide)] at h ⊢; exact f5 h)), (fun h => by first | exact f6 (by rwa [set_other (by decide)] at h) | (rw [set_other (by decide)] at h ⊢; exact f6 h)), (fun h => by first | exact f7 (by rwa [set_other (by decide)] at h) | (rw [set_other (by decide)] at h ⊢; exact f7 h)), (fun h => by first | exact f8 (by rwa [set_other (by decide)] at h) | (rw [set_other (by decide)] at h ⊢; exact f8 h)), (fun h => by first | exact f9 (by rwa [set_other (by decide)] at h) | (rw [set_other (by decide)] at h ⊢; exact f9 h)), (fun h => by first | exact f10 (by rwa [set_other (by decide)] at h) | (rw [set_other (by decide)] at h ⊢; exact f10 h)), (fun h => by first | exact f11 (by rwa [set_other (by decide)] at h) | (rw [set_other (by decide)] at h ⊢; exact f11 h)), (fun h => by first | exact f12 (by rwa [set_other (by decide)] at h) | (rw [set_other (by decide)] at h ⊢; exact f12 h)), (fun h => by first | exact f13 (by rwa [set_other (by decide)] at h) | (rw [set_other (by decide)] at h ⊢; exact f13 h)), (fun h => by first | exact f14 (by rwa [set_other (by decide)] at h) | (rw [set_other (by decide)] at h ⊢; exact f14 h)), (fun h => by first | exact f15 (by rwa [set_other (by decide)] at h) | (rw [set_other (by decide)] at h ⊢; exact f15 h)), (fun h => by first | exact f16 (by rwa [set_other (by decide)] at h) | (rw [set_other (by decide)] at h ⊢; exact f16 h)), (fun h => by first | exact f17 (by rwa [set_other (by decide)] at h) | (rw [set_other (by decide)] at h ⊢; exact f17 h))⟩
                      · obtain rfl := f2 (ready_dep hr (d := 1) (by kernel_rfl))
                        have h9 : L.getD 9 false = false := by
                          cases hh : L.getD 9 false with
                          | false => rfl
                          | true => exact absurd (f16 hh) (by rw [ready_not hr]; decide)
                        have h12 : L.getD 12 false = false := by
                          cases hh : L.getD 12 false with
                          | false => rfl
                          | true => exact absurd (f16 (f15 (f14 hh))) (by rw [ready_not hr]; decide)
                        refine inv_op rfl (fun K hK => ?_)
                        try simp only [Act.put, List.setIfInBounds_toArray, List.set_cons_zero, List.set_cons_succ]
                        go_simp
                        refine (CLN _ f0).mono ?_
                        rintro e w9 ⟨v9, rfl, ho9, hb9⟩
                        obtain ⟨A9, k9, rfl⟩ := own_slice ho9
                        try simp only []
                        refine hK.out _ _ ⟨x25, x152, (.slice (some ⟨bC, oC, none⟩) caps.length ck), .slice A9 caps.length k9, x155, x156, x157, x158, x159, x160, x161, x162, (by simp only [Act.put, List.setIfInBounds_toArray, List.set_cons_zero, List.set_cons_succ]), join f0 hb9, (fun h => by first | exact f1 (by rwa [set_other (by decide)] at h) | (rw [set_other (by decide)] at h ⊢; exact f1 h)), (fun _ => rfl), (fun _ => ⟨A9, k9, rfl, fun _ => own_base ho9 f0.size⟩), (fun h => by first | exact f4 (by rwa [set_other (by decide)] at h) | (rw [set_other (by decide)] at h ⊢; exact f4 h)), (fun h => by first | exact f5 (by rwa [set_other (by decide)] at h) | (rw [set_other (by decide)] at h ⊢; exact f5 h)), (fun h => by first | exact f6 (by rwa [set_other (by decide)] at h) | (rw [set_other (by decide)] at h ⊢; exact f6 h)), (fun h => by first | exact f7 (by rwa [set_other (by decide)] at h) | (rw [set_other (by decide)] at h ⊢; exact f7 h)), (fun h => by first | exact f8 (by rwa [set_other (by decide)] at h) | (rw [set_other (by decide)] at h ⊢; exact f8 h)), (fun h => by rw [set_other (by decide)] at h ⊢; obtain ⟨b, e, ho⟩ := f9 h; exact ⟨b, e, fun h9 => ⟨(ho h9).1, (ho h9).2.new_ hb9⟩⟩), (fun h => absurd h (by rw [set_other (by decide), h9]; decide)), (fun h => by first | exact f11 (by rwa [set_other (by decide)] at h) | (rw [set_other (by decide)] at h ⊢; exact f11 h)), (fun h => by rw [set_other (by decide)] at h ⊢; obtain ⟨b, e, hb, hB⟩ := f12 h; exact ⟨b, e, hb, hB.new_ hb9⟩), (fun h => by first | exact f13 (by rwa [set_other (by decide)] at h) | (rw [set_other (by decide)] at h ⊢; exact f13 h)), (fun h => by first | exact f14 (by rwa [set_other (by decide)] at h) | (rw [set_other (by decide)] at h ⊢; exact f14 h)), (fun h => by first | exact f15 (by rwa [set_other (by decide)] at h) | (rw [set_other (by decide)] at h ⊢; exact f15 h)), (fun _ => set_self hr), (fun h => by first | exact f17 (by rwa [set_other (by decide)] at h) | (rw [set_other (by decide)] at h ⊢; exact f17 h))⟩
                      · refine inv_op rfl (fun K hK => ?_)
                        try simp only [Act.put, List.setIfInBounds_toArray, List.set_cons_zero, List.set_cons_succ]
                        go_simp
                        refine hK.out _ _ ⟨x25, x152, x153, x154, .pointer (some ⟨w.heap.size, 0, none⟩), x156, x157, x158, x159, x160, x161, x162, (by simp only [Act.put, List.setIfInBounds_toArray, List.set_cons_zero, List.set_cons_succ]), f0, (fun h => by first | exact f1 (by rwa [set_other (by decide)] at h) | (rw [set_other (by decide)] at h ⊢; exact f1 h)), (fun h => by first | exact f2 (by rwa [set_other (by decide)] at h) | (rw [set_other (by decide)] at h ⊢; exact f2 h)), (fun h => by first | exact f3 (by rwa [set_other (by decide)] at h) | (rw [set_other (by decide)] at h ⊢; exact f3 h)), (fun _ => rfl), (fun h => by first | exact f5 (by rwa [set_other (by decide)] at h) | (rw [set_other (by decide)] at h ⊢; exact f5 h)), (fun h => by first | exact f6 (by rwa [set_other (by decide)] at h) | (rw [set_other (by decide)] at h ⊢; exact f6 h)), (fun h => by first | exact f7 (by rwa [set_other (by decide)] at h) | (rw [set_other (by decide)] at h ⊢; exact f7 h)), (fun h => by first | exact f8 (by rwa [set_other (by decide)] at h) | (rw [set_other (by decide)] at h ⊢; exact f8 h)), (fun h => by first | exact f9 (by rwa [set_other (by decide)] at h) | (rw [set_other (by decide)] at h ⊢; exact f9 h)), (fun h => by first | exact f10 (by rwa [set_other (by decide)] at h) | (rw [set_other (by decide)] at h ⊢; exact f10 h)), (fun h => by first | exact f11 (by rwa [set_other (by decide)] at h) | (rw [set_other (by decide)] at h ⊢; exact f11 h)), (fun h => by first | exact f12 (by rwa [set_other (by decide)] at h) | (rw [set_other (by decide)] at h ⊢; exact f12 h)), (fun h => by first | exact f13 (by rwa [set_other (by decide)] at h) | (rw [set_other (by decide)] at h ⊢; exact f13 h)), (fun h => by first | exact f14 (by rwa [set_other (by decide)] at h) | (rw [set_other (by decide)] at h ⊢; exact f14 h)), (fun h => by first | exact f15 (by rwa [set_other (by decide)] at h) | (rw [set_other (by decide)] at h ⊢; exact f15 h)), (fun h => by first | exact f16 (by rwa [set_other (by decide)] at h) | (rw [set_other (by decide)] at h ⊢; exact f16 h)), (fun h => by first | exact f17 (by rwa [set_other (by decide)] at h) | (rw [set_other (by decide)] at h ⊢; exact f17 h))⟩
                      · obtain rfl := f4 (ready_dep hr (d := 3) (by kernel_rfl))
                        have HH := HZ.out.new_ f0
                        have n0 := HH.x.cell 0 (v := .slice (some ⟨bC, oC, none⟩) caps.length ck) rfl
                        have nl := HH.x.lt
                        refine inv_op rfl (fun K hK => ?_)
                        try simp only [Act.put, List.setIfInBounds_toArray, List.set_cons_zero, List.set_cons_succ]
                        go_simp
                        refine hK.out _ _ ⟨x25, x152, x153, x154, .pointer (some ⟨w.heap.size, 0, none⟩), .slice (some ⟨bC, oC, none⟩) caps.length ck, x157, x158, x159, x160, x161, x162, (by simp only [Act.put, List.setIfInBounds_toArray, List.set_cons_zero, List.set_cons_succ]), f0, (fun h => by first | exact f1 (by rwa [set_other (by decide)] at h) | (rw [set_other (by decide)] at h ⊢; exact f1 h)), (fun h => by first | exact f2 (by rwa [set_other (by decide)] at h) | (rw [set_other (by decide)] at h ⊢; exact f2 h)), (fun h => by first | exact f3 (by rwa [set_other (by decide)] at h) | (rw [set_other (by decide)] at h ⊢; exact f3 h)), (fun _ => rfl), (fun _ => rfl), (fun h => by first | exact f6 (by rwa [set_other (by decide)] at h) | (rw [set_other (by decide)] at h ⊢; exact f6 h)), (fun h => by first | exact f7 (by rwa [set_other (by decide)] at h) | (rw [set_other (by decide)] at h ⊢; exact f7 h)), (fun h => by first | exact f8 (by rwa [set_other (by decide)] at h) | (rw [set_other (by decide)] at h ⊢; exact f8 h)), (fun h => by first | exact f9 (by rwa [set_other (by decide)] at h) | (rw [set_other (by decide)] at h ⊢; exact f9 h)), (fun h => by first | exact f10 (by rwa [set_other (by decide)] at h) | (rw [set_other (by decide)] at h ⊢; exact f10 h)), (fun h => by first | exact f11 (by rwa [set_other (by decide)] at h) | (rw [set_other (by decide)] at h ⊢; exact f11 h)), (fun h => by first | exact f12 (by rwa [set_other (by decide)] at h) | (rw [set_other (by decide)] at h ⊢; exact f12 h)), (fun h => by first | exact f13 (by rwa [set_other (by decide)] at h) | (rw [set_other (by decide)] at h ⊢; exact f13 h)), (fun h => by first | exact f14 (by rwa [set_other (by decide)] at h) | (rw [set_other (by decide)] at h ⊢; exact f14 h)), (fun h => by first | exact f15 (by rwa [set_other (by decide)] at h) | (rw [set_other (by decide)] at h ⊢; exact f15 h)), (fun h => by first | exact f16 (by rwa [set_other (by decide)] at h) | (rw [set_other (by decide)] at h ⊢; exact f16 h)), (fun h => by first | exact f17 (by rwa [set_other (by decide)] at h) | (rw [set_other (by decide)] at h ⊢; exact f17 h))⟩
                      · refine inv_op rfl (fun K hK => ?_)
                        try simp only [Act.put, List.setIfInBounds_toArray, List.set_cons_zero, List.set_cons_succ]
                        go_simp
                        refine hK.out _ _ ⟨x25, x152, x153, x154, x155, x156, .int .i64 (l : Int), x158, x159, x160, x161, x162, (by simp only [Act.put, List.setIfInBounds_toArray, List.set_cons_zero, List.set_cons_succ]), f0, (fun h => by first | exact f1 (by rwa [set_other (by decide)] at h) | (rw [set_other (by decide)] at h ⊢; exact f1 h)), (fun h => by first | exact f2 (by rwa [set_other (by decide)] at h) | (rw [set_other (by decide)] at h ⊢; exact f2 h)), (fun h => by first | exact f3 (by rwa [set_other (by decide)] at h) | (rw [set_other (by decide)] at h ⊢; exact f3 h)), (fun h => by first | exact f4 (by rwa [set_other (by decide)] at h) | (rw [set_other (by decide)] at h ⊢; exact f4 h)), (fun h => by first | exact f5 (by rwa [set_other (by decide)] at h) | (rw [set_other (by decide)] at h ⊢; exact f5 h)), (fun _ => rfl), (fun h => by first | exact f7 (by rwa [set_other (by decide)] at h) | (rw [set_other (by decide)] at h ⊢; exact f7 h)), (fun h => by first | exact f8 (by rwa [set_other (by decide)] at h) | (rw [set_other (by decide)] at h ⊢; exact f8 h)), (fun h => by first | exact f9 (by rwa [set_other (by decide)] at h) | (rw [set_other (by decide)] at h ⊢; exact f9 h)), (fun h => by first | exact f10 (by rwa [set_other (by decide)] at h) | (rw [set_other (by decide)] at h ⊢; exact f10 h)), (fun h => by first | exact f11 (by rwa [set_other (by decide)] at h) | (rw [set_other (by decide)] at h ⊢; exact f11 h)), (fun h => by first | exact f12 (by rwa [set_other (by decide)] at h) | (rw [set_other (by decide)] at h ⊢; exact f12 h)), (fun h => by first | exact f13 (by rwa [set_other (by decide)] at h) | (rw [set_other (by decide)] at h ⊢; exact f13 h)), (fun h => by first | exact f14 (by rwa [set_other (by decide)] at h) | (rw [set_other (by decide)] at h ⊢; exact f14 h)), (fun h => by first | exact f15 (by rwa [set_other (by decide)] at h) | (rw [set_other (by decide)] at h ⊢; exact f15 h)), (fun h => by first | exact f16 (by rwa [set_other (by decide)] at h) | (rw [set_other (by decide)] at h ⊢; exact f16 h)), (fun h => by first | exact f17 (by rwa [set_other (by decide)] at h) | (rw [set_other (by decide)] at h ⊢; exact f17 h))⟩
                      · obtain rfl := f5 (ready_dep hr (d := 4) (by kernel_rfl))
                        obtain rfl := f6 (ready_dep hr (d := 5) (by kernel_rfl))
                        refine inv_op rfl (fun K hK => ?_)
                        try simp only [Act.put, List.setIfInBounds_toArray, List.set_cons_zero, List.set_cons_succ]
                        go_simp
                        refine hK.out _ _ ⟨x25, x152, x153, x154, x155, .slice (some ⟨bC, oC, none⟩) caps.length ck, .int .i64 (l : Int), .pointer (some ⟨bC, oC + l * 2, none⟩), x159, x160, x161, x162, (by simp only [Act.put, List.setIfInBounds_toArray, List.set_cons_zero, List.set_cons_succ]), f0, (fun h => by first | exact f1 (by rwa [set_other (by decide)] at h) | (rw [set_other (by decide)] at h ⊢; exact f1 h)), (fun h => by first | exact f2 (by rwa [set_other (by decide)] at h) | (rw [set_other (by decide)] at h ⊢; exact f2 h)), (fun h => by first | exact f3 (by rwa [set_other (by decide)] at h) | (rw [set_other (by decide)] at h ⊢; exact f3 h)), (fun h => by first | exact f4 (by rwa [set_other (by decide)] at h) | (rw [set_other (by decide)] at h ⊢; exact f4 h)), (fun _ => rfl), (fun _ => rfl), (fun _ => rfl), (fun h => by first | exact f8 (by rwa [set_other (by decide)] at h) | (rw [set_other (by decide)] at h ⊢; exact f8 h)), (fun h => by first | exact f9 (by rwa [set_other (by decide)] at h) | (rw [set_other (by decide)] at h ⊢; exact f9 h)), (fun h => by first | exact f10 (by rwa [set_other (by decide)] at h) | (rw [set_other (by decide)] at h ⊢; exact f10 h)), (fun h => by first | exact f11 (by rwa [set_other (by decide)] at h) | (rw [set_other (by decide)] at h ⊢; exact f11 h)), (fun h => by first | exact f12 (by rwa [set_other (by decide)] at h) | (rw [set_other (by decide)] at h ⊢; exact f12 h)), (fun h => by first | exact f13 (by rwa [set_other (by decide)] at h) | (rw [set_other (by decide)] at h ⊢; exact f13 h)), (fun h => by first | exact f14 (by rwa [set_other (by decide)] at h) | (rw [set_other (by decide)] at h ⊢; exact f14 h)), (fun h => by first | exact f15 (by rwa [set_other (by decide)] at h) | (rw [set_other (by decide)] at h ⊢; exact f15 h)), (fun h => by first | exact f16 (by rwa [set_other (by decide)] at h) | (rw [set_other (by decide)] at h ⊢; exact f16 h)), (fun h => by first | exact f17 (by rwa [set_other (by decide)] at h) | (rw [set_other (by decide)] at h ⊢; exact f17 h))⟩
                      · obtain rfl := f7 (ready_dep hr (d := 6) (by kernel_rfl))
                        have HH := HZ.out.new_ f0
                        obtain ⟨c9, b9, o9, hc9, he9, -, hb9c, d0, d1, -⟩ := HH.net.capAt hlc
                        dsimp only at hc9 he9
                        rw [HCG.out] at hc9
                        injection hc9 with hc9
                        subst hc9
                        injection he9 with he9
                        injection he9 with he1 he2
                        subst he1 he2
                        refine inv_op rfl (fun K hK => ?_)
                        try simp only [Act.put, List.setIfInBounds_toArray, List.set_cons_zero, List.set_cons_succ]
                        go_simp
                        refine hK.out _ _ ⟨x25, x152, x153, x154, x155, x156, x157, .pointer (some ⟨bC, oC + l * 2, none⟩), .agg #[.int .i64 c.n, .int .i64 c.d], x160, x161, x162, (by simp only [Act.put, List.setIfInBounds_toArray, List.set_cons_zero, List.set_cons_succ]), f0, (fun h => by first | exact f1 (by rwa [set_other (by decide)] at h) | (rw [set_other (by decide)] at h ⊢; exact f1 h)), (fun h => by first | exact f2 (by rwa [set_other (by decide)] at h) | (rw [set_other (by decide)] at h ⊢; exact f2 h)), (fun h => by first | exact f3 (by rwa [set_other (by decide)] at h) | (rw [set_other (by decide)] at h ⊢; exact f3 h)), (fun h => by first | exact f4 (by rwa [set_other (by decide)] at h) | (rw [set_other (by decide)] at h ⊢; exact f4 h)), (fun h => by first | exact f5 (by rwa [set_other (by decide)] at h) | (rw [set_other (by decide)] at h ⊢; exact f5 h)), (fun h => by first | exact f6 (by rwa [set_other (by decide)] at h) | (rw [set_other (by decide)] at h ⊢; exact f6 h)), (fun _ => rfl), (fun _ => rfl), (fun h => by first | exact f9 (by rwa [set_other (by decide)] at h) | (rw [set_other (by decide)] at h ⊢; exact f9 h)), (fun h => by first | exact f10 (by rwa [set_other (by decide)] at h) | (rw [set_other (by decide)] at h ⊢; exact f10 h)), (fun h => by first | exact f11 (by rwa [set_other (by decide)] at h) | (rw [set_other (by decide)] at h ⊢; exact f11 h)), (fun h => by first | exact f12 (by rwa [set_other (by decide)] at h) | (rw [set_other (by decide)] at h ⊢; exact f12 h)), (fun h => by first | exact f13 (by rwa [set_other (by decide)] at h) | (rw [set_other (by decide)] at h ⊢; exact f13 h)), (fun h => by first | exact f14 (by rwa [set_other (by decide)] at h) | (rw [set_other (by decide)] at h ⊢; exact f14 h)), (fun h => by first | exact f15 (by rwa [set_other (by decide)] at h) | (rw [set_other (by decide)] at h ⊢; exact f15 h)), (fun h => by first | exact f16 (by rwa [set_other (by decide)] at h) | (rw [set_other (by decide)] at h ⊢; exact f16 h)), (fun h => by first | exact f17 (by rwa [set_other (by decide)] at h) | (rw [set_other (by decide)] at h ⊢; exact f17 h))⟩
                      · obtain rfl := f8 (ready_dep hr (d := 7) (by kernel_rfl))
                        have h9 : L.getD 9 false = false := by
                          cases hh : L.getD 9 false with
                          | false => rfl
                          | true => exact absurd (f17 hh) (by rw [ready_not hr]; decide)
                        refine inv_op rfl (fun K hK => ?_)
                        try simp only [Act.put, List.setIfInBounds_toArray, List.set_cons_zero, List.set_cons_succ]
                        go_simp
                        refine hK.out _ _ ⟨x25, x152, x153, x154, x155, x156, x157, x158, (.agg #[.int .i64 c.n, .int .i64 c.d]), .slice (some ⟨w1z.heap.size, 0, none⟩) 1 1, x161, x162, (by simp only [Act.put, List.setIfInBounds_toArray, List.set_cons_zero, List.set_cons_succ]), f0.alloc f0.size _, (fun h => by first | exact f1 (by rwa [set_other (by decide)] at h) | (rw [set_other (by decide)] at h ⊢; exact f1 h)), (fun h => by first | exact f2 (by rwa [set_other (by decide)] at h) | (rw [set_other (by decide)] at h ⊢; exact f2 h)), (fun h => by rw [set_other (by decide)] at h ⊢; obtain ⟨A, k, e, ho⟩ := f3 h; exact ⟨A, k, e, fun h9 => own_new (ho h9) ((Below.refl _ _).alloc (Nat.le_refl _) _)⟩), (fun h => by first | exact f4 (by rwa [set_other (by decide)] at h) | (rw [set_other (by decide)] at h ⊢; exact f4 h)), (fun h => by first | exact f5 (by rwa [set_other (by decide)] at h) | (rw [set_other (by decide)] at h ⊢; exact f5 h)), (fun h => by first | exact f6 (by rwa [set_other (by decide)] at h) | (rw [set_other (by decide)] at h ⊢; exact f6 h)), (fun h => by first | exact f7 (by rwa [set_other (by decide)] at h) | (rw [set_other (by decide)] at h ⊢; exact f7 h)), (fun _ => rfl), (fun _ => ⟨w1z.heap.size, rfl, fun _ => ⟨f0.size, Blk.new _ _ _⟩⟩), (fun h => absurd h (by rw [set_other (by decide), h9]; decide)), (fun h => by first | exact f11 (by rwa [set_other (by decide)] at h) | (rw [set_other (by decide)] at h ⊢; exact f11 h)), (fun h => by rw [set_other (by decide)] at h ⊢; obtain ⟨b, e, hb, hB⟩ := f12 h; exact ⟨b, e, hb, hB.alloc _⟩), (fun h => by first | exact f13 (by rwa [set_other (by decide)] at h) | (rw [set_other (by decide)] at h ⊢; exact f13 h)), (fun h => by first | exact f14 (by rwa [set_other (by decide)] at h) | (rw [set_other (by decide)] at h ⊢; exact f14 h)), (fun h => by first | exact f15 (by rwa [set_other (by decide)] at h) | (rw [set_other (by decide)] at h ⊢; exact f15 h)), (fun h => by first | exact f16 (by rwa [set_other (by decide)] at h) | (rw [set_other (by decide)] at h ⊢; exact f16 h)), (fun _ => set_self hr)⟩
                      · have h9 := ready_not hr
                        obtain ⟨A9, k9, e3, ho3⟩ := f3 (ready_dep hr (d := 2) (by kernel_rfl))
                        obtain ⟨b8, e8, ho8⟩ := f9 (ready_dep hr (d := 8) (by kernel_rfl))
                        have d2 := ready_dep hr (d := 2) (by kernel_rfl)
                        have d8 := ready_dep hr (d := 8) (by kernel_rfl)
                        have h12 : L.getD 12 false = false := by
                          cases hh : L.getD 12 false with
                          | false => rfl
                          | true => exact absurd (f15 (f14 hh)) (by rw [ready_not hr]; decide)
                        have ho := ho3 h9
                        obtain ⟨hb8, hB8⟩ := ho8 h9
                        subst e3 e8
                        have hRL : Reads w1z (b8 + 1) 2 (some ⟨b8, 0, none⟩) 1 [.int .i64 c.n, .int .i64 c.d] := ⟨rfl, fun _ => ⟨_, rfl, Nat.lt_succ_self _, World.news_of_block hB8⟩⟩
                        refine inv_op rfl (fun K hK => ?_)
                        try simp only [Act.put, List.setIfInBounds_toArray, List.set_cons_zero, List.set_cons_succ]
                        rw [if_pos (by kernel_rfl)]
                        refine wp_append_any w1z (.tmp 154) (.tmp 160) 22 (by rfl) Z.heap.size 32 i4 _ 2 16 Try.underlying22 hi4 hz0' hz1' hz2' rfl (by omega) (.slice A9 caps.length k9) caps.length _ (by rfl) ho (b8 + 1) (some ⟨b8, 0, none⟩) 1 1 _ (by rfl) hRL (fun u hu => by simp at hu; rcases hu with rfl | rfl <;> rfl) (by unfold maxLen; omega) (by omega) f0.size ?_
                        intro v9 w9 ho9 hg9 _
                        obtain ⟨A2, k2, rfl⟩ := own_slice ho9
                        go_simp
                        refine hK.out _ _ ⟨x25, x152, x153, (.slice A9 caps.length k9), x155, x156, x157, x158, x159, (.slice (some ⟨b8, 0, none⟩) 1 1), .slice A2 (caps.length + 1) k2, x162, (by simp only [Act.put, List.setIfInBounds_toArray, List.set_cons_zero, List.set_cons_succ]), f0.grown hg9 f0.size (fun q hq => (ho.lt q hq).1), (fun h => by first | exact f1 (by rwa [set_other (by decide)] at h) | (rw [set_other (by decide)] at h ⊢; exact f1 h)), (fun h => by first | exact f2 (by rwa [set_other (by decide)] at h) | (rw [set_other (by decide)] at h ⊢; exact f2 h)), (fun _ => ⟨A9, k9, rfl, fun h => absurd h (by rw [set_self hr]; decide)⟩), (fun h => by first | exact f4 (by rwa [set_other (by decide)] at h) | (rw [set_other (by decide)] at h ⊢; exact f4 h)), (fun h => by first | exact f5 (by rwa [set_other (by decide)] at h) | (rw [set_other (by decide)] at h ⊢; exact f5 h)), (fun h => by first | exact f6 (by rwa [set_other (by decide)] at h) | (rw [set_other (by decide)] at h ⊢; exact f6 h)), (fun h => by first | exact f7 (by rwa [set_other (by decide)] at h) | (rw [set_other (by decide)] at h ⊢; exact f7 h)), (fun h => by first | exact f8 (by rwa [set_other (by decide)] at h) | (rw [set_other (by decide)] at h ⊢; exact f8 h)), (fun _ => ⟨b8, rfl, fun h => absurd h (by rw [set_self hr]; decide)⟩), (fun _ => ⟨A2, k2, rfl, ho9⟩), (fun h => absurd (f15 (by rwa [set_other (by decide)] at h)) (by rw [h9]; decide)), (fun h => by rw [set_other (by decide)] at h ⊢; obtain ⟨b, e, hb, hB⟩ := f12 h; rw [h12] at hB ⊢; exact ⟨b, e, hb, hB.grown hg9 (fun e9 => own_blk_ne ho hB (by decide) e9.symm)⟩), (fun h => by first | exact f13 (by rwa [set_other (by decide)] at h) | (rw [set_other (by decide)] at h ⊢; exact f13 h)), (fun h => by first | exact f14 (by rwa [set_other (by decide)] at h) | (rw [set_other (by decide)] at h ⊢; exact f14 h)), (fun _ => set_self hr), (fun _ => by rw [set_other (by decide)]; exact d2), (fun _ => by rw [set_other (by decide)]; exact d8)⟩
                      · have d9 := ready_dep hr (d := 9) (by kernel_rfl)
                        obtain ⟨A2, k2, e10, ho10⟩ := f10 d9
                        subst e10
                        have h12 : L.getD 12 false = false := by
                          cases hh : L.getD 12 false with
                          | false => rfl
                          | true => exact absurd (f14 hh) (by rw [ready_not hr]; decide)
                        refine inv_op rfl (fun K hK => ?_)
                        try simp only [Act.put, List.setIfInBounds_toArray, List.set_cons_zero, List.set_cons_succ]
                        go_simp
                        refine hK.out _ _ ⟨x25, x152, x153, x154, x155, x156, x157, x158, x159, x160, (.slice A2 (caps.length + 1) k2), .agg #[.slice A2 (caps.length + 1) k2, .slice none 0 0], (by simp only [Act.put, List.setIfInBounds_toArray, List.set_cons_zero, List.set_cons_succ]), f0, (fun h => by first | exact f1 (by rwa [set_other (by decide)] at h) | (rw [set_other (by decide)] at h ⊢; exact f1 h)), (fun h => by first | exact f2 (by rwa [set_other (by decide)] at h) | (rw [set_other (by decide)] at h ⊢; exact f2 h)), (fun h => by first | exact f3 (by rwa [set_other (by decide)] at h) | (rw [set_other (by decide)] at h ⊢; exact f3 h)), (fun h => by first | exact f4 (by rwa [set_other (by decide)] at h) | (rw [set_other (by decide)] at h ⊢; exact f4 h)), (fun h => by first | exact f5 (by rwa [set_other (by decide)] at h) | (rw [set_other (by decide)] at h ⊢; exact f5 h)), (fun h => by first | exact f6 (by rwa [set_other (by decide)] at h) | (rw [set_other (by decide)] at h ⊢; exact f6 h)), (fun h => by first | exact f7 (by rwa [set_other (by decide)] at h) | (rw [set_other (by decide)] at h ⊢; exact f7 h)), (fun h => by first | exact f8 (by rwa [set_other (by decide)] at h) | (rw [set_other (by decide)] at h ⊢; exact f8 h)), (fun h => by first | exact f9 (by rwa [set_other (by decide)] at h) | (rw [set_other (by decide)] at h ⊢; exact f9 h)), (fun _ => ⟨A2, k2, rfl, ho10⟩), (fun _ => rfl), (fun h => by rw [set_other (by decide)] at h ⊢; obtain ⟨b, e, hb, hB⟩ := f12 h; rw [h12] at hB ⊢; exact ⟨b, e, hb, hB⟩), (fun h => by first | exact f13 (by rwa [set_other (by decide)] at h) | (rw [set_other (by decide)] at h ⊢; exact f13 h)), (fun _ => set_self hr), (fun _ => by rw [set_other (by decide)]; exact d9), (fun h => by first | exact f16 (by rwa [set_other (by decide)] at h) | (rw [set_other (by decide)] at h ⊢; exact f16 h)), (fun h => by first | exact f17 (by rwa [set_other (by decide)] at h) | (rw [set_other (by decide)] at h ⊢; exact f17 h))⟩
                      · have h12 : L.getD 12 false = false := by
                          cases hh : L.getD 12 false with
                          | false => rfl
                          | true => exact absurd (f13 hh) (by rw [ready_not hr]; decide)
                        refine inv_op rfl (fun K hK => ?_)
                        try simp only [Act.put, List.setIfInBounds_toArray, List.set_cons_zero, List.set_cons_succ]
                        go_simp
                        refine hK.out _ _ ⟨.pointer (some ⟨w1z.heap.size, 0, none⟩), x152, x153, x154, x155, x156, x157, x158, x159, x160, x161, x162, (by simp only [Act.put, List.setIfInBounds_toArray, List.set_cons_zero, List.set_cons_succ]), f0.alloc f0.size _, (fun h => by first | exact f1 (by rwa [set_other (by decide)] at h) | (rw [set_other (by decide)] at h ⊢; exact f1 h)), (fun h => by first | exact f2 (by rwa [set_other (by decide)] at h) | (rw [set_other (by decide)] at h ⊢; exact f2 h)), (fun h => by rw [set_other (by decide)] at h ⊢; obtain ⟨A, k, e, ho⟩ := f3 h; exact ⟨A, k, e, fun h9 => own_new (ho h9) ((Below.refl _ _).alloc (Nat.le_refl _) _)⟩), (fun h => by first | exact f4 (by rwa [set_other (by decide)] at h) | (rw [set_other (by decide)] at h ⊢; exact f4 h)), (fun h => by first | exact f5 (by rwa [set_other (by decide)] at h) | (rw [set_other (by decide)] at h ⊢; exact f5 h)), (fun h => by first | exact f6 (by rwa [set_other (by decide)] at h) | (rw [set_other (by decide)] at h ⊢; exact f6 h)), (fun h => by first | exact f7 (by rwa [set_other (by decide)] at h) | (rw [set_other (by decide)] at h ⊢; exact f7 h)), (fun h => by first | exact f8 (by rwa [set_other (by decide)] at h) | (rw [set_other (by decide)] at h ⊢; exact f8 h)), (fun h => by rw [set_other (by decide)] at h ⊢; obtain ⟨b, e, ho⟩ := f9 h; exact ⟨b, e, fun h9 => ⟨(ho h9).1, (ho h9).2.alloc _⟩⟩), (fun h => by rw [set_other (by decide)] at h; obtain ⟨A, k, e, ho⟩ := f10 h; exact ⟨A, k, e, own_new ho ((Below.refl _ _).alloc (Nat.le_refl _) _)⟩), (fun h => by first | exact f11 (by rwa [set_other (by decide)] at h) | (rw [set_other (by decide)] at h ⊢; exact f11 h)), (fun _ => ⟨w1z.heap.size, rfl, f0.size, by rw [set_other (by decide), h12]; exact Blk.new _ _ _⟩), (fun _ => set_self hr), (fun h => by first | exact f14 (by rwa [set_other (by decide)] at h) | (rw [set_other (by decide)] at h ⊢; exact f14 h)), (fun h => by first | exact f15 (by rwa [set_other (by decide)] at h) | (rw [set_other (by decide)] at h ⊢; exact f15 h)), (fun h => by first | exact f16 (by rwa [set_other (by decide)] at h) | (rw [set_other (by decide)] at h ⊢; exact f16 h)), (fun h => by first | exact f17 (by rwa [set_other (by decide)] at h) | (rw [set_other (by decide)] at h ⊢; exact f17 h))⟩
                      · have h12 := ready_not hr
                        have d11 := ready_dep hr (d := 11) (by kernel_rfl)
                        have d10 := ready_dep hr (d := 10) (by kernel_rfl)
                        have d9 := f15 d10
                        obtain ⟨b, eb, hb, hB⟩ := f12 d11
                        rw [h12] at hB
                        obtain ⟨A2, k2, e10, ho10⟩ := f10 d9
                        have e11 := f11 d10
                        have ne9 := own_blk_ne ho10 hB (by decide)
                        have q0 := hB.cell 0 (v := .slice none 0 0) rfl
                        have q1 := hB.cell 1 (v := .slice none 0 0) rfl
                        have p0 := hB.free 0
                        have p1 := hB.free 1
                        have q9 := hB.lt
                        subst e10
                        subst e11
                        subst eb
                        refine inv_op rfl (fun K hK => ?_)
                        try simp only [Act.put, List.setIfInBounds_toArray, List.set_cons_zero, List.set_cons_succ]
                        go_simp
                        refine hK.out _ _ ⟨(.pointer (some ⟨b, 0, none⟩)), x152, x153, x154, x155, x156, x157, x158, x159, x160, (.slice A2 (caps.length + 1) k2), (.agg #[.slice A2 (caps.length + 1) k2, .slice none 0 0]), (by simp only [Act.put, List.setIfInBounds_toArray, List.set_cons_zero, List.set_cons_succ]), ((f0.setCell hb _).setCell hb _), (fun h => by first | exact f1 (by rwa [set_other (by decide)] at h) | (rw [set_other (by decide)] at h ⊢; exact f1 h)), (fun h => by first | exact f2 (by rwa [set_other (by decide)] at h) | (rw [set_other (by decide)] at h ⊢; exact f2 h)), (fun h => by rw [set_other (by decide)] at h ⊢; obtain ⟨A, k, e, ho⟩ := f3 h; exact ⟨A, k, e, fun h9 => absurd h9 (by rw [d9]; decide)⟩), (fun h => by first | exact f4 (by rwa [set_other (by decide)] at h) | (rw [set_other (by decide)] at h ⊢; exact f4 h)), (fun h => by first | exact f5 (by rwa [set_other (by decide)] at h) | (rw [set_other (by decide)] at h ⊢; exact f5 h)), (fun h => by first | exact f6 (by rwa [set_other (by decide)] at h) | (rw [set_other (by decide)] at h ⊢; exact f6 h)), (fun h => by first | exact f7 (by rwa [set_other (by decide)] at h) | (rw [set_other (by decide)] at h ⊢; exact f7 h)), (fun h => by first | exact f8 (by rwa [set_other (by decide)] at h) | (rw [set_other (by decide)] at h ⊢; exact f8 h)), (fun h => by rw [set_other (by decide)] at h ⊢; obtain ⟨b1, e, ho⟩ := f9 h; exact ⟨b1, e, fun h9 => absurd h9 (by rw [d9]; decide)⟩), (fun _ => ⟨A2, k2, rfl, own_move ho10 fun q hq => by rw [Below.heap_setCell _ _ _ q (fun e => ne9 (by rw [hq, e])), Below.heap_setCell _ _ _ q (fun e => ne9 (by rw [hq, e]))]⟩), (fun _ => rfl), (fun _ => ⟨b, rfl, hb, by rw [set_self hr]; exact (hB.set_ 0 _).to 1 _ rfl⟩), (fun _ => by rw [set_other (by decide)]; exact d11), (fun _ => by rw [set_other (by decide)]; exact d10), (fun h => by first | exact f15 (by rwa [set_other (by decide)] at h) | (rw [set_other (by decide)] at h ⊢; exact f15 h)), (fun h => by first | exact f16 (by rwa [set_other (by decide)] at h) | (rw [set_other (by decide)] at h ⊢; exact f16 h)), (fun h => by first | exact f17 (by rwa [set_other (by decide)] at h) | (rw [set_other (by decide)] at h ⊢; exact f17 h))⟩
                    case done =>
                      intro L az w1z hI hall
                      obtain ⟨x25, x152, x153, x154, x155, x156, x157, x158, x159, x160, x161, x162, rfl, f0, f1, f2, f3, f4, f5, f6, f7, f8, f9, f10, f11, f12, f13, f14, f15, f16, f17⟩ := hI
                      subst haq
                      simp only [Act.put, List.setIfInBounds_toArray, List.set_cons_zero, List.set_cons_succ]
                      go_wp2_with fail
                      go_meet
                      obtain ⟨b, eb, hb, hB⟩ := f12 (hall 11 (by decide))
                      obtain ⟨A2, k2, e10, ho10⟩ := f10 (hall 9 (by decide))
                      rw [hall 12 (by decide), e10] at hB
                      exact ⟨b, A2, k2, eb, ⟨hB, ho10, hb, f0⟩⟩
                  case rest =>
                    obtain ⟨b25, A2, k2, rfl, HB25⟩ := hcut
                    obtain ⟨bb2, hbb2⟩ : ∃ b, b = wc.heap.size := ⟨_, rfl⟩
                    obtain ⟨b0, hb0⟩ : ∃ b, b = Z.heap.size := ⟨_, rfl⟩
                    have HC25 := Kept.mk c64
                    obtain ⟨C2, hC2⟩ : ∃ C2, C2 = caps ++ [c] := ⟨_, rfl⟩
                    have HC2 := Kept.mk hC2
                    have HT : Kept (TA w wc ⟨caps, some ⟨bC, oC, none⟩, ck, flows, fA, fk⟩ gq rs b25 (.slice A2 C2.length k2) (.slice none 0 0) C2 [] b0 bb2) := ⟨by
                      have hz := HZ.out.new_ HB25.out.2.2.2
                      have e : (caps ++ [c]).length = caps.length + 1 := by rw [List.length_append]; rfl
                      rw [hC2, e, hbb2, hb0]
                      exact ⟨hz.x, hz.net, hz.rr, HB25.out.1, by rw [e, List.flatMap_append]; simpa using HB25.out.2.1, World.ownsRow_nil _ _ _ _, (fun p hp => by cases hp), hz.blw, by have h1 := HZ.out.lo; have h2 := HB25.out.1.lt; have h3 := HZ.out.x.lt; have h4 := HB25.out.2.2.1; have h5 := hz.rr.lt; have h6 := HB25.out.2.2.2.size; omega⟩⟩
                    clear HB25 hbb2 hb0 HZ CLN c64 hC2
                    have n0 := HT.out.x.cell 0 (v := .slice (some ⟨bC, oC, none⟩) caps.length ck) rfl; have n1 := HT.out.x.cell 1 (v := .slice fA flows.length fk) rfl; have nl := HT.out.x.lt
                    go_wp2_with fail
                    go_loopw [166] (fun v wr => ∃ k : Nat, k ≤ flows.length ∧ v = .int .i64 k ∧ ∃ (fs : List PFlow) (A3 : Option Addr) (k3 : Nat), Kept (TA w wr ⟨caps, some ⟨bC, oC, none⟩, ck, flows, fA, fk⟩ gq rs b25 (.slice A2 C2.length k2) (.slice A3 fs.length k3) C2 fs b0 bb2) ∧ Kept (fs.length = k ∧ ∀ (i : Nat) (p : PFlow), i < k → flows[i]? = some p → ∃ p9, fs[i]? = some p9 ∧ p9.b = p.b ∧ p9.d = p.d ∧ p9.ls = tw l caps.length p.ls)) (fun v _ => flows.length - (intOf v).toNat)
                    case atStart => exact ⟨0, Nat.zero_le _, rfl, [], none, 0, HT, ⟨rfl, fun i p hi => absurd hi (by omega)⟩⟩
                    case round =>
                      clear HT n0 n1 nl
                      obtain ⟨k, hk, rfl, fs, A3, k3, HT, HRE⟩ := hrel
                      have n0 := HT.out.x.cell 0 (v := .slice (some ⟨bC, oC, none⟩) caps.length ck) rfl; have n1 := HT.out.x.cell 1 (v := .slice fA flows.length fk) rfl; have nl := HT.out.x.lt
                      by_cases hlt : k < flows.length
                      · obtain ⟨p, bF, oF, hp, rfl, -, hb, ⟨c0, c1, c2, c3⟩, hfl⟩ := HT.out.net.flowAt hlt
                        obtain ⟨ls, pA, pk, pb, pd⟩ := p
                        dsimp only at hp c0 c1 c2 c3
                        have HPG := Kept.mk hp
                        have HFL := Kept.mk hfl
                        have hlm : ls.length ≤ 1000000 := by
                          have h1 := links_few ((netOk_iff.1 (mod_ok HMB.out).1).2.2.2 _ (List.mem_of_getElem? hp))
                          dsimp only at h1
                          omega
                        have HVF : Kept (∀ q, (Value.slice A3 fs.length k3).ownBlock = some q → q < wr.heap.size) := ⟨fun q hq => (HT.out.of.lt q hq).2⟩
                        have hfsl : fs.length ≤ 5 := by have := HRE.out.1; omega
                        clear hp hfl
                        go_upto_region 39 with fail
                        obtain ⟨V, hV, HV⟩ : ∃ V, V = wr.alloc (.cells #[.slice pA ls.length pk, .bool pb, .int .i64 pd.n, .int .i64 pd.d] 37) ∧ Kept (TA w V ⟨caps, some ⟨bC, oC, none⟩, ck, flows, some ⟨bF, oF, none⟩, fk⟩ gq rs b25 (.slice A2 C2.length k2) (.slice A3 fs.length k3) C2 fs b0 bb2 ∧ Blk V wr.heap.size 37 #[.slice pA ls.length pk, .bool pb, .int .i64 pd.n, .int .i64 pd.d] ∧ FlowAt V w.heap.size ⟨ls, pA, pk, pb, pd⟩ ∧ bb2 ≤ wr.heap.size) := ⟨_, rfl, ⟨HT.out.alloc _, Blk.new _ _ _, ⟨HFL.out.rd.keep fun q hq => World.cell?_alloc_lt wr _ q (by have := HT.out.x.lt; omega), HFL.out.le, HFL.out.mx, HFL.out.r64⟩, HT.out.lo.2.2.2.2.2.2⟩⟩
                        obtain ⟨b27, hb27⟩ : ∃ b, b = wr.heap.size := ⟨_, rfl⟩
                        rw [← hV, ← hb27]
                        rw [← hb27] at HV HVF
                        clear hV hb27 HT HFL n0 n1 nl c0 c1 c2 c3
                        have q0 := HV.out.2.1.cell 0 (v := .slice pA ls.length pk) rfl
                        have q1 := HV.out.2.1.lt
                        have CO := fun w h => contains_c ls pA pk (l : Int) w h (by omega)
                        have HRD : Kept (RowsAt V V.heap.size 1 icell pA ls) := ⟨HV.out.2.2.1.rd.more HV.out.1.blw.size⟩
                        obtain ⟨cb, hcb⟩ : ∃ cb, ls.contains (l : Int) = cb := ⟨_, rfl⟩
                        rw [hcb] at CO
                        have HCB := Kept.mk hcb
                        clear hcb
                        go_upto_if 173 with (go_at_call 11; refine (CO _ HRD.out).mono ?_; rintro e wz ⟨rfl, rfl⟩)
                        clear CO
                        go_cut [] (fun wx => ∃ (A9 : Option Addr) (k9 : Nat), Kept (TA w wx ⟨caps, some ⟨bC, oC, none⟩, ck, flows, some ⟨bF, oF, none⟩, fk⟩ gq rs b25 (.slice A2 C2.length k2) (.slice A3 fs.length k3) C2 fs b0 bb2 ∧ Blk wx b27 37 #[.slice A9 (tw l caps.length ls).length k9, .bool pb, .int .i64 pd.n, .int .i64 pd.d] ∧ SubAt w wx bb2 ⟨tw l caps.length ls, A9, k9, pb, pd⟩))
                        case first =>
                          cases cb with
                          | false =>
                            have HTW : Kept (tw l caps.length ls = ls) := ⟨by unfold tw; rw [HCB.out]; rfl⟩
                            go_wp2_with fail
                            go_meet
                            exact ⟨pA, pk, by rw [HTW.out]; exact ⟨HV.out.1, HV.out.2.1, .inl HV.out.2.2.1, HV.out.2.2.1.r64⟩⟩
                          | true =>
                            have HTW : Kept (tw l caps.length ls = ls ++ [(caps.length : Int)]) := ⟨by unfold tw; rw [HCB.out]; rfl⟩
                            go_upto_region 40 with fail
                            obtain ⟨Z, hZ, HZ, HB27⟩ : ∃ Z, Z = V ∧ Kept (TA w Z ⟨caps, some ⟨bC, oC, none⟩, ck, flows, some ⟨bF, oF, none⟩, fk⟩ gq rs b25 (.slice A2 C2.length k2) (.slice A3 fs.length k3) C2 fs b0 bb2) ∧ Kept (Blk Z b27 37 #[.slice pA ls.length pk, .bool pb, .int .i64 pd.n, .int .i64 pd.d]) := ⟨_, rfl, ⟨HV.out.1⟩, ⟨HV.out.2.1⟩⟩
                            rw [← hZ]
                            have CLI : ∀ W, Below Z.heap.size Z W → Calls Try.prog 12 #[.slice pA ls.length pk] W (Clones W 3 1 ls.length (ls.flatMap icell)) := fun W hb => cloneI_c _ _ _ _ W w.heap.size (by
                              rw [hZ] at hb
                              exact (HV.out.2.2.1.rd.keep fun q hq => hb.cell (by have := HV.out.1.x.lt; omega)).rd) (Nat.le_trans HZ.out.blw.size hb.size) (fun u hu => by
                              simp only [List.mem_flatMap, icell] at hu
                              obtain ⟨m, _, hm⟩ := hu
                              simp at hm
                              subst hm
                              rfl) (by omega)
                            have HR9 := Kept.mk HV.out.2.2.1.r64
                            have HBZ : Kept (bb2 ≤ Z.heap.size ∧ bb2 ≤ b27) := ⟨HZ.out.lo.2.2.2.2.2.2, HV.out.2.2.2⟩
                            obtain ⟨i5, hi5, hy0, hy1, hy2⟩ := info_parts infoI
                            clear hZ HV q0 q1 HRD
                            refine with_act fun aq haq => ?_
                            refine wp_region_inv (fun L az w1z => ∃ (x174 x175 x176 x177 x178 x179 x180 x181 x182 : Value), az = (((((((((aq.put (some 174) x174).put (some 175) x175).put (some 176) x176).put (some 177) x177).put (some 178) x178).put (some 179) x179).put (some 180) x180).put (some 181) x181).put (some 182) x182) ∧ (L.getD 9 false = false → Below Z.heap.size Z w1z) ∧ (L.getD 0 false = true → x174 = .pointer (some ⟨b27, 0, none⟩)) ∧ (L.getD 1 false = true → x175 = .slice pA ls.length pk) ∧ (L.getD 2 false = true → ∃ (A : Option Addr) (k : Nat), x176 = .slice A ls.length k ∧ (L.getD 7 false = false → w1z.ownsRow Z.heap.size 3 1 (.slice A ls.length k) ls.length (ls.flatMap icell))) ∧ (L.getD 3 false = true → x177 = .pointer (some ⟨w.heap.size, 0, none⟩)) ∧ (L.getD 4 false = true → x178 = .slice (some ⟨bC, oC, none⟩) caps.length ck) ∧ (L.getD 5 false = true → x179 = .int .i64 (caps.length : Int)) ∧ (L.getD 6 false = true → ∃ b : Nat, x180 = .slice (some ⟨b, 0, none⟩) 1 1 ∧ (L.getD 7 false = false → Z.heap.size ≤ b ∧ Blk w1z b 3 #[.int .i64 (caps.length : Int)])) ∧ (L.getD 7 false = true → ∃ (A : Option Addr) (k : Nat), x181 = .slice A (ls.length + 1) k ∧ w1z.ownsRow Z.heap.size 3 1 (.slice A (ls.length + 1) k) (ls.length + 1) ((ls.flatMap icell) ++ [.int .i64 (caps.length : Int)])) ∧ (L.getD 8 false = true → x182 = .pointer (some ⟨b27, 0, none⟩)) ∧ (L.getD 9 false = true → ∀ j, j < 9 → L.getD j false = true) ∧ (L.getD 9 false = true → ∃ W0 : World, Below Z.heap.size Z W0 ∧ w1z = W0.setCell ⟨b27, 0, none⟩ x181) ∧ (L.getD 7 false = true → L.getD 2 false = true) ∧ (L.getD 7 false = true → L.getD 6 false = true)) (by kernel_rfl) (by kernel_rfl) ?start ?oper ?done
                            case start =>
                              refine ⟨aq.tmps.getD 174 undef, aq.tmps.getD 175 undef, aq.tmps.getD 176 undef, aq.tmps.getD 177 undef, aq.tmps.getD 178 undef, aq.tmps.getD 179 undef, aq.tmps.getD 180 undef, aq.tmps.getD 181 undef, aq.tmps.getD 182 undef, by subst haq; simp only [Act.put, List.setIfInBounds_toArray, List.set_cons_zero, List.set_cons_succ, Array.getD_eq_getD_getElem?, List.getElem?_toArray, List.getElem?_cons_zero, List.getElem?_cons_succ, Option.getD_some], fun _ => dN (Below.refl Z.heap.size Z) 1, none_yet, none_yet, none_yet, none_yet, none_yet, none_yet, none_yet, none_yet, none_yet, none_yet, none_yet, none_yet, none_yet⟩
                            case oper =>
                              intro L az w1z i hI hr
                              obtain ⟨x174, x175, x176, x177, x178, x179, x180, x181, x182, rfl, f0, f1, f2, f3, f4, f5, f6, f7, f8, f9, f10, f11, f12, f13⟩ := hI
                              subst haq
                              have hi : i < 10 := ready_lt hr
                              have hcase : i = 0 ∨ i = 1 ∨ i = 2 ∨ i = 3 ∨ i = 4 ∨ i = 5 ∨ i = 6 ∨ i = 7 ∨ i = 8 ∨ i = 9 := by omega
                              clear hi
                              rcases hcase with rfl | rfl | rfl | rfl | rfl | rfl | rfl | rfl | rfl | rfl
                              · have h9 : L.getD 9 false = false := by
                                  cases hh : L.getD 9 false with
                                  | false => rfl
                                  | true => exact absurd (f10 hh 0 (by omega)) (by rw [ready_not hr]; decide)
                                have b0 := f0 h9
                                refine inv_op rfl (fun K hK => ?_)
                                try simp only [Act.put, List.setIfInBounds_toArray, List.set_cons_zero, List.set_cons_succ]
                                go_simp
                                refine hK.out _ _ ⟨.pointer (some ⟨b27, 0, none⟩), x175, x176, x177, x178, x179, x180, x181, x182, (by simp only [Act.put, List.setIfInBounds_toArray, List.set_cons_zero, List.set_cons_succ]), (fun _ => b0), (fun _ => rfl), (fun h => by first | exact f2 (by rwa [set_other (by decide)] at h) | (rw [set_other (by decide)] at h ⊢; exact f2 h)), (fun h => by first | exact f3 (by rwa [set_other (by decide)] at h) | (rw [set_other (by decide)] at h ⊢; exact f3 h)), (fun h => by first | exact f4 (by rwa [set_other (by decide)] at h) | (rw [set_other (by decide)] at h ⊢; exact f4 h)), (fun h => by first | exact f5 (by rwa [set_other (by decide)] at h) | (rw [set_other (by decide)] at h ⊢; exact f5 h)), (fun h => by first | exact f6 (by rwa [set_other (by decide)] at h) | (rw [set_other (by decide)] at h ⊢; exact f6 h)), (fun h => by first | exact f7 (by rwa [set_other (by decide)] at h) | (rw [set_other (by decide)] at h ⊢; exact f7 h)), (fun h => by first | exact f8 (by rwa [set_other (by decide)] at h) | (rw [set_other (by decide)] at h ⊢; exact f8 h)), (fun h => by first | exact f9 (by rwa [set_other (by decide)] at h) | (rw [set_other (by decide)] at h ⊢; exact f9 h)), (fun h => absurd h (by rw [set_other (by decide), h9]; decide)), (fun h => absurd h (by rw [set_other (by decide), h9]; decide)), (fun h => by first | exact f12 (by rwa [set_other (by decide)] at h) | (rw [set_other (by decide)] at h ⊢; exact f12 h)), (fun h => by first | exact f13 (by rwa [set_other (by decide)] at h) | (rw [set_other (by decide)] at h ⊢; exact f13 h))⟩
                              · have h9 : L.getD 9 false = false := by
                                  cases hh : L.getD 9 false with
                                  | false => rfl
                                  | true => exact absurd (f10 hh 1 (by omega)) (by rw [ready_not hr]; decide)
                                have b0 := f0 h9
                                obtain rfl := f1 (ready_dep hr (d := 0) (by kernel_rfl))
                                have HB := HB27.out.new_ b0
                                have p0 := HB.cell 0 (v := .slice pA ls.length pk) rfl
                                have pl := HB.lt
                                refine inv_op rfl (fun K hK => ?_)
                                try simp only [Act.put, List.setIfInBounds_toArray, List.set_cons_zero, List.set_cons_succ]
                                go_simp
                                refine hK.out _ _ ⟨.pointer (some ⟨b27, 0, none⟩), .slice pA ls.length pk, x176, x177, x178, x179, x180, x181, x182, (by simp only [Act.put, List.setIfInBounds_toArray, List.set_cons_zero, List.set_cons_succ]), (fun _ => b0), (fun _ => rfl), (fun _ => rfl), (fun h => by first | exact f3 (by rwa [set_other (by decide)] at h) | (rw [set_other (by decide)] at h ⊢; exact f3 h)), (fun h => by first | exact f4 (by rwa [set_other (by decide)] at h) | (rw [set_other (by decide)] at h ⊢; exact f4 h)), (fun h => by first | exact f5 (by rwa [set_other (by decide)] at h) | (rw [set_other (by decide)] at h ⊢; exact f5 h)), (fun h => by first | exact f6 (by rwa [set_other (by decide)] at h) | (rw [set_other (by decide)] at h ⊢; exact f6 h)), (fun h => by first | exact f7 (by rwa [set_other (by decide)] at h) | (rw [set_other (by decide)] at h ⊢; exact f7 h)), (fun h => by first | exact f8 (by rwa [set_other (by decide)] at h) | (rw [set_other (by decide)] at h ⊢; exact f8 h)), (fun h => by first | exact f9 (by rwa [set_other (by decide)] at h) | (rw [set_other (by decide)] at h ⊢; exact f9 h)), (fun h => absurd h (by rw [set_other (by decide), h9]; decide)), (fun h => absurd h (by rw [set_other (by decide), h9]; decide)), (fun h => by first | exact f12 (by rwa [set_other (by decide)] at h) | (rw [set_other (by decide)] at h ⊢; exact f12 h)), (fun h => by first | exact f13 (by rwa [set_other (by decide)] at h) | (rw [set_other (by decide)] at h ⊢; exact f13 h))⟩
                              · have h9 : L.getD 9 false = false := by
                                  cases hh : L.getD 9 false with
                                  | false => rfl
                                  | true => exact absurd (f10 hh 2 (by omega)) (by rw [ready_not hr]; decide)
                                have b0 := f0 h9
                                obtain rfl := f2 (ready_dep hr (d := 1) (by kernel_rfl))
                                have h7 : L.getD 7 false = false := by
                                  cases hh : L.getD 7 false with
                                  | false => rfl
                                  | true => exact absurd (f12 hh) (by rw [ready_not hr]; decide)
                                refine inv_op rfl (fun K hK => ?_)
                                try simp only [Act.put, List.setIfInBounds_toArray, List.set_cons_zero, List.set_cons_succ]
                                go_simp
                                refine (CLI _ b0).mono ?_
                                rintro e w9 ⟨v9, rfl, ho9, hb9⟩
                                obtain ⟨A9, k9, rfl⟩ := own_slice ho9
                                try simp only []
                                refine hK.out _ _ ⟨x174, (.slice pA ls.length pk), .slice A9 ls.length k9, x177, x178, x179, x180, x181, x182, (by simp only [Act.put, List.setIfInBounds_toArray, List.set_cons_zero, List.set_cons_succ]), (fun _ => join b0 hb9), (fun h => by first | exact f1 (by rwa [set_other (by decide)] at h) | (rw [set_other (by decide)] at h ⊢; exact f1 h)), (fun _ => rfl), (fun _ => ⟨A9, k9, rfl, fun _ => own_base ho9 b0.size⟩), (fun h => by first | exact f4 (by rwa [set_other (by decide)] at h) | (rw [set_other (by decide)] at h ⊢; exact f4 h)), (fun h => by first | exact f5 (by rwa [set_other (by decide)] at h) | (rw [set_other (by decide)] at h ⊢; exact f5 h)), (fun h => by first | exact f6 (by rwa [set_other (by decide)] at h) | (rw [set_other (by decide)] at h ⊢; exact f6 h)), (fun h => by rw [set_other (by decide)] at h ⊢; obtain ⟨b, e, ho⟩ := f7 h; exact ⟨b, e, fun h7 => ⟨(ho h7).1, (ho h7).2.new_ hb9⟩⟩), (fun h => absurd h (by rw [set_other (by decide), h7]; decide)), (fun h => by first | exact f9 (by rwa [set_other (by decide)] at h) | (rw [set_other (by decide)] at h ⊢; exact f9 h)), (fun h => absurd h (by rw [set_other (by decide), h9]; decide)), (fun h => absurd h (by rw [set_other (by decide), h9]; decide)), (fun _ => set_self hr), (fun h => by first | exact f13 (by rwa [set_other (by decide)] at h) | (rw [set_other (by decide)] at h ⊢; exact f13 h))⟩
                              · have h9 : L.getD 9 false = false := by
                                  cases hh : L.getD 9 false with
                                  | false => rfl
                                  | true => exact absurd (f10 hh 3 (by omega)) (by rw [ready_not hr]; decide)
                                have b0 := f0 h9
                                refine inv_op rfl (fun K hK => ?_)
                                try simp only [Act.put, List.setIfInBounds_toArray, List.set_cons_zero, List.set_cons_succ]
                                go_simp
                                refine hK.out _ _ ⟨x174, x175, x176, .pointer (some ⟨w.heap.size, 0, none⟩), x178, x179, x180, x181, x182, (by simp only [Act.put, List.setIfInBounds_toArray, List.set_cons_zero, List.set_cons_succ]), (fun _ => b0), (fun h => by first | exact f1 (by rwa [set_other (by decide)] at h) | (rw [set_other (by decide)] at h ⊢; exact f1 h)), (fun h => by first | exact f2 (by rwa [set_other (by decide)] at h) | (rw [set_other (by decide)] at h ⊢; exact f2 h)), (fun h => by first | exact f3 (by rwa [set_other (by decide)] at h) | (rw [set_other (by decide)] at h ⊢; exact f3 h)), (fun _ => rfl), (fun h => by first | exact f5 (by rwa [set_other (by decide)] at h) | (rw [set_other (by decide)] at h ⊢; exact f5 h)), (fun h => by first | exact f6 (by rwa [set_other (by decide)] at h) | (rw [set_other (by decide)] at h ⊢; exact f6 h)), (fun h => by first | exact f7 (by rwa [set_other (by decide)] at h) | (rw [set_other (by decide)] at h ⊢; exact f7 h)), (fun h => by first | exact f8 (by rwa [set_other (by decide)] at h) | (rw [set_other (by decide)] at h ⊢; exact f8 h)), (fun h => by first | exact f9 (by rwa [set_other (by decide)] at h) | (rw [set_other (by decide)] at h ⊢; exact f9 h)), (fun h => absurd h (by rw [set_other (by decide), h9]; decide)), (fun h => absurd h (by rw [set_other (by decide), h9]; decide)), (fun h => by first | exact f12 (by rwa [set_other (by decide)] at h) | (rw [set_other (by decide)] at h ⊢; exact f12 h)), (fun h => by first | exact f13 (by rwa [set_other (by decide)] at h) | (rw [set_other (by decide)] at h ⊢; exact f13 h))⟩
                              · have h9 : L.getD 9 false = false := by
                                  cases hh : L.getD 9 false with
                                  | false => rfl
                                  | true => exact absurd (f10 hh 4 (by omega)) (by rw [ready_not hr]; decide)
                                have b0 := f0 h9
                                obtain rfl := f4 (ready_dep hr (d := 3) (by kernel_rfl))
                                have HH := HZ.out.new_ b0
                                have n0 := HH.x.cell 0 (v := .slice (some ⟨bC, oC, none⟩) caps.length ck) rfl
                                have nl := HH.x.lt
                                refine inv_op rfl (fun K hK => ?_)
                                try simp only [Act.put, List.setIfInBounds_toArray, List.set_cons_zero, List.set_cons_succ]
                                go_simp
                                refine hK.out _ _ ⟨x174, x175, x176, .pointer (some ⟨w.heap.size, 0, none⟩), .slice (some ⟨bC, oC, none⟩) caps.length ck, x179, x180, x181, x182, (by simp only [Act.put, List.setIfInBounds_toArray, List.set_cons_zero, List.set_cons_succ]), (fun _ => b0), (fun h => by first | exact f1 (by rwa [set_other (by decide)] at h) | (rw [set_other (by decide)] at h ⊢; exact f1 h)), (fun h => by first | exact f2 (by rwa [set_other (by decide)] at h) | (rw [set_other (by decide)] at h ⊢; exact f2 h)), (fun h => by first | exact f3 (by rwa [set_other (by decide)] at h) | (rw [set_other (by decide)] at h ⊢; exact f3 h)), (fun _ => rfl), (fun _ => rfl), (fun h => by first | exact f6 (by rwa [set_other (by decide)] at h) | (rw [set_other (by decide)] at h ⊢; exact f6 h)), (fun h => by first | exact f7 (by rwa [set_other (by decide)] at h) | (rw [set_other (by decide)] at h ⊢; exact f7 h)), (fun h => by first | exact f8 (by rwa [set_other (by decide)] at h) | (rw [set_other (by decide)] at h ⊢; exact f8 h)), (fun h => by first | exact f9 (by rwa [set_other (by decide)] at h) | (rw [set_other (by decide)] at h ⊢; exact f9 h)), (fun h => absurd h (by rw [set_other (by decide), h9]; decide)), (fun h => absurd h (by rw [set_other (by decide), h9]; decide)), (fun h => by first | exact f12 (by rwa [set_other (by decide)] at h) | (rw [set_other (by decide)] at h ⊢; exact f12 h)), (fun h => by first | exact f13 (by rwa [set_other (by decide)] at h) | (rw [set_other (by decide)] at h ⊢; exact f13 h))⟩
                              · have h9 : L.getD 9 false = false := by
                                  cases hh : L.getD 9 false with
                                  | false => rfl
                                  | true => exact absurd (f10 hh 5 (by omega)) (by rw [ready_not hr]; decide)
                                have b0 := f0 h9
                                obtain rfl := f5 (ready_dep hr (d := 4) (by kernel_rfl))
                                refine inv_op rfl (fun K hK => ?_)
                                try simp only [Act.put, List.setIfInBounds_toArray, List.set_cons_zero, List.set_cons_succ]
                                go_simp
                                refine hK.out _ _ ⟨x174, x175, x176, x177, .slice (some ⟨bC, oC, none⟩) caps.length ck, .int .i64 (caps.length : Int), x180, x181, x182, (by simp only [Act.put, List.setIfInBounds_toArray, List.set_cons_zero, List.set_cons_succ]), (fun _ => b0), (fun h => by first | exact f1 (by rwa [set_other (by decide)] at h) | (rw [set_other (by decide)] at h ⊢; exact f1 h)), (fun h => by first | exact f2 (by rwa [set_other (by decide)] at h) | (rw [set_other (by decide)] at h ⊢; exact f2 h)), (fun h => by first | exact f3 (by rwa [set_other (by decide)] at h) | (rw [set_other (by decide)] at h ⊢; exact f3 h)), (fun h => by first | exact f4 (by rwa [set_other (by decide)] at h) | (rw [set_other (by decide)] at h ⊢; exact f4 h)), (fun _ => rfl), (fun _ => rfl), (fun h => by first | exact f7 (by rwa [set_other (by decide)] at h) | (rw [set_other (by decide)] at h ⊢; exact f7 h)), (fun h => by first | exact f8 (by rwa [set_other (by decide)] at h) | (rw [set_other (by decide)] at h ⊢; exact f8 h)), (fun h => by first | exact f9 (by rwa [set_other (by decide)] at h) | (rw [set_other (by decide)] at h ⊢; exact f9 h)), (fun h => absurd h (by rw [set_other (by decide), h9]; decide)), (fun h => absurd h (by rw [set_other (by decide), h9]; decide)), (fun h => by first | exact f12 (by rwa [set_other (by decide)] at h) | (rw [set_other (by decide)] at h ⊢; exact f12 h)), (fun h => by first | exact f13 (by rwa [set_other (by decide)] at h) | (rw [set_other (by decide)] at h ⊢; exact f13 h))⟩
                              · have h9 : L.getD 9 false = false := by
                                  cases hh : L.getD 9 false with
                                  | false => rfl
                                  | true => exact absurd (f10 hh 6 (by omega)) (by rw [ready_not hr]; decide)
                                have b0 := f0 h9
                                obtain rfl := f6 (ready_dep hr (d := 5) (by kernel_rfl))
                                have h7 : L.getD 7 false = false := by
                                  cases hh : L.getD 7 false with
                                  | false => rfl
                                  | true => exact absurd (f13 hh) (by rw [ready_not hr]; decide)
                                refine inv_op rfl (fun K hK => ?_)
                                try simp only [Act.put, List.setIfInBounds_toArray, List.set_cons_zero, List.set_cons_succ]
                                go_simp
                                refine hK.out _ _ ⟨x174, x175, x176, x177, x178, (.int .i64 (caps.length : Int)), .slice (some ⟨w1z.heap.size, 0, none⟩) 1 1, x181, x182, (by simp only [Act.put, List.setIfInBounds_toArray, List.set_cons_zero, List.set_cons_succ]), (fun _ => b0.alloc b0.size _), (fun h => by first | exact f1 (by rwa [set_other (by decide)] at h) | (rw [set_other (by decide)] at h ⊢; exact f1 h)), (fun h => by first | exact f2 (by rwa [set_other (by decide)] at h) | (rw [set_other (by decide)] at h ⊢; exact f2 h)), (fun h => by rw [set_other (by decide)] at h ⊢; obtain ⟨A, k, e, ho⟩ := f3 h; exact ⟨A, k, e, fun h7 => own_new (ho h7) ((Below.refl _ _).alloc (Nat.le_refl _) _)⟩), (fun h => by first | exact f4 (by rwa [set_other (by decide)] at h) | (rw [set_other (by decide)] at h ⊢; exact f4 h)), (fun h => by first | exact f5 (by rwa [set_other (by decide)] at h) | (rw [set_other (by decide)] at h ⊢; exact f5 h)), (fun _ => rfl), (fun _ => ⟨w1z.heap.size, rfl, fun _ => ⟨b0.size, Blk.new _ _ _⟩⟩), (fun h => absurd h (by rw [set_other (by decide), h7]; decide)), (fun h => by first | exact f9 (by rwa [set_other (by decide)] at h) | (rw [set_other (by decide)] at h ⊢; exact f9 h)), (fun h => absurd h (by rw [set_other (by decide), h9]; decide)), (fun h => absurd h (by rw [set_other (by decide), h9]; decide)), (fun h => by first | exact f12 (by rwa [set_other (by decide)] at h) | (rw [set_other (by decide)] at h ⊢; exact f12 h)), (fun _ => set_self hr)⟩
                              · have h9 : L.getD 9 false = false := by
                                  cases hh : L.getD 9 false with
                                  | false => rfl
                                  | true => exact absurd (f10 hh 7 (by omega)) (by rw [ready_not hr]; decide)
                                have b0 := f0 h9
                                have h7 := ready_not hr
                                obtain ⟨A9, k9, e3, ho3⟩ := f3 (ready_dep hr (d := 2) (by kernel_rfl))
                                obtain ⟨b8, e8, ho8⟩ := f7 (ready_dep hr (d := 6) (by kernel_rfl))
                                have d2 := ready_dep hr (d := 2) (by kernel_rfl)
                                have d6 := ready_dep hr (d := 6) (by kernel_rfl)
                                have ho := ho3 h7
                                obtain ⟨hb8, hB8⟩ := ho8 h7
                                subst e3 e8
                                have hRL : Reads w1z (b8 + 1) 1 (some ⟨b8, 0, none⟩) 1 [.int .i64 (caps.length : Int)] := ⟨rfl, fun _ => ⟨_, rfl, Nat.lt_succ_self _, World.news_of_block hB8⟩⟩
                                refine inv_op rfl (fun K hK => ?_)
                                try simp only [Act.put, List.setIfInBounds_toArray, List.set_cons_zero, List.set_cons_succ]
                                rw [if_pos (by kernel_rfl)]
                                refine wp_append_any w1z (.tmp 176) (.tmp 180) 35 (by rfl) Z.heap.size 3 i5 _ 1 8 Try.underlying35 hi5 hy0 hy1 hy2 rfl (by omega) (.slice A9 ls.length k9) ls.length _ (by rfl) ho (b8 + 1) (some ⟨b8, 0, none⟩) 1 1 _ (by rfl) hRL (fun u hu => by simp at hu; subst hu; rfl) (by unfold maxLen; omega) (by omega) b0.size ?_
                                intro v9 w9 ho9 hg9 _
                                obtain ⟨A2, k2, rfl⟩ := own_slice ho9
                                go_simp
                                refine hK.out _ _ ⟨x174, x175, (.slice A9 ls.length k9), x177, x178, x179, (.slice (some ⟨b8, 0, none⟩) 1 1), .slice A2 (ls.length + 1) k2, x182, (by simp only [Act.put, List.setIfInBounds_toArray, List.set_cons_zero, List.set_cons_succ]), (fun _ => b0.grown hg9 b0.size (fun q hq => (ho.lt q hq).1)), (fun h => by first | exact f1 (by rwa [set_other (by decide)] at h) | (rw [set_other (by decide)] at h ⊢; exact f1 h)), (fun h => by first | exact f2 (by rwa [set_other (by decide)] at h) | (rw [set_other (by decide)] at h ⊢; exact f2 h)), (fun _ => ⟨A9, k9, rfl, fun h => absurd h (by rw [set_self hr]; decide)⟩), (fun h => by first | exact f4 (by rwa [set_other (by decide)] at h) | (rw [set_other (by decide)] at h ⊢; exact f4 h)), (fun h => by first | exact f5 (by rwa [set_other (by decide)] at h) | (rw [set_other (by decide)] at h ⊢; exact f5 h)), (fun h => by first | exact f6 (by rwa [set_other (by decide)] at h) | (rw [set_other (by decide)] at h ⊢; exact f6 h)), (fun _ => ⟨b8, rfl, fun h => absurd h (by rw [set_self hr]; decide)⟩), (fun _ => ⟨A2, k2, rfl, ho9⟩), (fun h => by first | exact f9 (by rwa [set_other (by decide)] at h) | (rw [set_other (by decide)] at h ⊢; exact f9 h)), (fun h => absurd h (by rw [set_other (by decide), h9]; decide)), (fun h => absurd h (by rw [set_other (by decide), h9]; decide)), (fun _ => by rw [set_other (by decide)]; exact d2), (fun _ => by rw [set_other (by decide)]; exact d6)⟩
                              · have h9 : L.getD 9 false = false := by
                                  cases hh : L.getD 9 false with
                                  | false => rfl
                                  | true => exact absurd (f10 hh 8 (by omega)) (by rw [ready_not hr]; decide)
                                have b0 := f0 h9
                                refine inv_op rfl (fun K hK => ?_)
                                try simp only [Act.put, List.setIfInBounds_toArray, List.set_cons_zero, List.set_cons_succ]
                                go_simp
                                refine hK.out _ _ ⟨x174, x175, x176, x177, x178, x179, x180, x181, .pointer (some ⟨b27, 0, none⟩), (by simp only [Act.put, List.setIfInBounds_toArray, List.set_cons_zero, List.set_cons_succ]), (fun _ => b0), (fun h => by first | exact f1 (by rwa [set_other (by decide)] at h) | (rw [set_other (by decide)] at h ⊢; exact f1 h)), (fun h => by first | exact f2 (by rwa [set_other (by decide)] at h) | (rw [set_other (by decide)] at h ⊢; exact f2 h)), (fun h => by first | exact f3 (by rwa [set_other (by decide)] at h) | (rw [set_other (by decide)] at h ⊢; exact f3 h)), (fun h => by first | exact f4 (by rwa [set_other (by decide)] at h) | (rw [set_other (by decide)] at h ⊢; exact f4 h)), (fun h => by first | exact f5 (by rwa [set_other (by decide)] at h) | (rw [set_other (by decide)] at h ⊢; exact f5 h)), (fun h => by first | exact f6 (by rwa [set_other (by decide)] at h) | (rw [set_other (by decide)] at h ⊢; exact f6 h)), (fun h => by first | exact f7 (by rwa [set_other (by decide)] at h) | (rw [set_other (by decide)] at h ⊢; exact f7 h)), (fun h => by first | exact f8 (by rwa [set_other (by decide)] at h) | (rw [set_other (by decide)] at h ⊢; exact f8 h)), (fun _ => rfl), (fun h => absurd h (by rw [set_other (by decide), h9]; decide)), (fun h => absurd h (by rw [set_other (by decide), h9]; decide)), (fun h => by first | exact f12 (by rwa [set_other (by decide)] at h) | (rw [set_other (by decide)] at h ⊢; exact f12 h)), (fun h => by first | exact f13 (by rwa [set_other (by decide)] at h) | (rw [set_other (by decide)] at h ⊢; exact f13 h))⟩
                              · have h9 := ready_not hr
                                have b0 := f0 h9
                                have g0 := ready_dep hr (d := 0) (by kernel_rfl)
                                have g1 := ready_dep hr (d := 1) (by kernel_rfl)
                                have g2 := ready_dep hr (d := 2) (by kernel_rfl)
                                have g3 := ready_dep hr (d := 3) (by kernel_rfl)
                                have g4 := ready_dep hr (d := 4) (by kernel_rfl)
                                have g5 := ready_dep hr (d := 5) (by kernel_rfl)
                                have g6 := ready_dep hr (d := 6) (by kernel_rfl)
                                have g7 := ready_dep hr (d := 7) (by kernel_rfl)
                                have g8 := ready_dep hr (d := 8) (by kernel_rfl)
                                obtain ⟨A2, k2, e8, ho8⟩ := f8 g7
                                have HB := HB27.out.new_ b0
                                have p0 := HB.cell 0 (v := .slice pA ls.length pk) rfl
                                have pf := HB.free 0
                                have pl := HB.lt
                                have hlb := HB27.out.lt
                                subst e8
                                obtain rfl := f1 (ready_dep hr (d := 0) (by kernel_rfl))
                                obtain rfl := f2 (ready_dep hr (d := 1) (by kernel_rfl))
                                obtain rfl := f4 (ready_dep hr (d := 3) (by kernel_rfl))
                                obtain rfl := f5 (ready_dep hr (d := 4) (by kernel_rfl))
                                obtain rfl := f6 (ready_dep hr (d := 5) (by kernel_rfl))
                                obtain rfl := f9 (ready_dep hr (d := 8) (by kernel_rfl))
                                refine inv_op rfl (fun K hK => ?_)
                                try simp only [Act.put, List.setIfInBounds_toArray, List.set_cons_zero, List.set_cons_succ]
                                go_simp
                                refine hK.out _ _ ⟨(.pointer (some ⟨b27, 0, none⟩)), (.slice pA ls.length pk), x176, (.pointer (some ⟨w.heap.size, 0, none⟩)), (.slice (some ⟨bC, oC, none⟩) caps.length ck), (.int .i64 (caps.length : Int)), x180, (.slice A2 (ls.length + 1) k2), (.pointer (some ⟨b27, 0, none⟩)), (by simp only [Act.put, List.setIfInBounds_toArray, List.set_cons_zero, List.set_cons_succ]), (fun h => absurd h (by rw [set_self hr]; decide)), (fun _ => rfl), (fun _ => rfl), (fun h => by rw [set_other (by decide)] at h ⊢; obtain ⟨A, k, e, ho⟩ := f3 h; exact ⟨A, k, e, fun h7 => absurd h7 (by rw [g7]; decide)⟩), (fun _ => rfl), (fun _ => rfl), (fun _ => rfl), (fun h => by rw [set_other (by decide)] at h ⊢; obtain ⟨b1, e, ho⟩ := f7 h; exact ⟨b1, e, fun h7 => absurd h7 (by rw [g7]; decide)⟩), (fun _ => ⟨A2, k2, rfl, own_move ho8 fun q hq => Below.heap_setCell _ _ _ q (by have := (ho8.lt q hq).1; simp only; omega)⟩), (fun _ => rfl), (fun _ j hj => by rcases (by omega : j = 0 ∨ j = 1 ∨ j = 2 ∨ j = 3 ∨ j = 4 ∨ j = 5 ∨ j = 6 ∨ j = 7 ∨ j = 8) with rfl | rfl | rfl | rfl | rfl | rfl | rfl | rfl | rfl <;> (rw [set_other (by decide)]; first | exact g0 | exact g1 | exact g2 | exact g3 | exact g4 | exact g5 | exact g6 | exact g7 | exact g8)), (fun _ => ⟨w1z, b0, rfl⟩), (fun h => by first | exact f12 (by rwa [set_other (by decide)] at h) | (rw [set_other (by decide)] at h ⊢; exact f12 h)), (fun h => by first | exact f13 (by rwa [set_other (by decide)] at h) | (rw [set_other (by decide)] at h ⊢; exact f13 h))⟩
                            case done =>
                              intro L az w1z hI hall
                              obtain ⟨x174, x175, x176, x177, x178, x179, x180, x181, x182, rfl, f0, f1, f2, f3, f4, f5, f6, f7, f8, f9, f10, f11, f12, f13⟩ := hI
                              subst haq
                              simp only [Act.put, List.setIfInBounds_toArray, List.set_cons_zero, List.set_cons_succ]
                              go_wp2_with fail
                              go_meet
                              obtain ⟨A9, k9, e8, ho8⟩ := f8 (hall 7 (by decide))
                              obtain ⟨W0, hb0, hw0⟩ := f11 (hall 9 (by decide))
                              rw [e8] at hw0
                              have hT0 := HZ.out.new_ hb0
                              have hB0 := HB27.out.new_ hb0
                              refine ⟨A9, k9, ?_⟩
                              rw [HTW.out, List.length_append, List.length_singleton, hw0]
                              rw [hw0] at ho8
                              refine ⟨hT0.far (p := ⟨b27, 0, none⟩) HBZ.out.2 (fun ho hk q hq e9 => ?_) _, hB0.to 0 (.slice A9 (ls.length + 1) k9) rfl, .inr ?_, HR9.out⟩
                              · rcases hk with rfl | rfl | rfl
                                · exact own_blk_ne ho hB0 (by decide) (by rw [hq, e9])
                                · exact own_blk_ne ho hB0 (by decide) (by rw [hq, e9])
                                · have := HVF.out q hq; simp only at e9; omega
                              · rw [List.length_append, List.length_singleton, List.flatMap_append]
                                exact own_base (by simpa [icell] using ho8) HBZ.out.1
                        case rest =>
                          obtain ⟨A9, k9, HX⟩ := hcut
                          clear HV q0 q1 HRD
                          obtain ⟨tl, htl⟩ : ∃ tl, tl = tw l caps.length ls := ⟨_, rfl⟩
                          rw [← htl] at HX
                          have HTL := Kept.mk htl
                          clear htl
                          obtain ⟨i5, hi5, hy0, hy1, hy2⟩ := info_parts infoF
                          have HOA := Kept.mk (HX.out.1.alloc (.cells #[.slice A9 tl.length k9, .bool pb, .int .i64 pd.n, .int .i64 pd.d] 37))
                          have HRL := Kept.mk (reads_made wc #[.slice A9 tl.length k9, .bool pb, .int .i64 pd.n, .int .i64 pd.d] 37 4 1 rfl)
                          have HSUB := Kept.mk (HX.out.2.2.new_ (W' := wc.alloc (.cells #[.slice A9 tl.length k9, .bool pb, .int .i64 pd.n, .int .i64 pd.d] 37)) ((Below.refl _ _).alloc (Nat.le_refl _) _) HX.out.1.blw.size)
                          have hbs : bb2 ≤ wc.heap.size := HX.out.1.lo.2.2.2.2.2.2
                          have t0 := HX.out.1.sb.cell 1 (v := .slice A3 fs.length k3) rfl
                          have t1 := HX.out.1.sb.lt
                          have e0 := HX.out.2.1.cell 0 (v := .slice A9 tl.length k9) rfl
                          have e1 := HX.out.2.1.cell 1 (v := .bool pb) rfl
                          have e2 := HX.out.2.1.cell 2 (v := .int .i64 pd.n) rfl
                          have e3 := HX.out.2.1.cell 3 (v := .int .i64 pd.d) rfl
                          have e4 := HX.out.2.1.lt
                          go_wp2_with (at_builtin; refine wpList_append_any _ rfl _ _ _ rfl bb2 37 i5 _ 4 48 Try.underlying23 hi5 hy0 hy1 hy2 rfl (by omega) _ fs.length _ rfl HOA.out.of _ _ 1 1 _ rfl HRL.out (fun u hu => by simp at hu; rcases hu with rfl | rfl | rfl | rfl <;> rfl) (by unfold maxLen; omega) (by omega) (by simp only [World.size_alloc]; omega) ?_; intro v9 w9 ho hgw hat; obtain ⟨A4, k4, rfl⟩ := own_slice ho; have HO9 := Kept.mk ho; have HG9 := Kept.mk hgw; have HSB9 := Kept.mk (HOA.out.sb.grown hgw (fun e => by have := (HOA.out.of.lt b25 e.symm).1; have := HOA.out.lo; omega)); clear ho hgw hat t0 t1; have t0 := HSB9.out.cell 1 (v := .slice A3 fs.length k3) rfl; have t2 := HSB9.out.free 1; have t1 := HSB9.out.lt)
                          go_roundw
                          case rel => exact ⟨k + 1, by omega, by go_num, fs ++ [⟨tl, A9, k9, pb, pd⟩], A4, k4, by rw [List.length_append]; exact ⟨HOA.out.growF (x := ⟨tl, A9, k9, pb, pd⟩) HSUB.out HO9.out HG9.out⟩, ⟨by rw [List.length_append, HRE.out.1]; rfl, fun i p hi hp => by
                            by_cases hik : i < k
                            · obtain ⟨p9, h1, h2⟩ := HRE.out.2 i p hik hp
                              exact ⟨p9, by rw [List.getElem?_append_left (by rw [HRE.out.1]; exact hik)]; exact h1, h2⟩
                            · obtain rfl : i = k := by omega
                              rw [HPG.out] at hp
                              injection hp with hp
                              subst hp
                              exact ⟨⟨tl, A9, k9, pb, pd⟩, by rw [List.getElem?_append_right (by rw [HRE.out.1]; exact Nat.le_refl _), HRE.out.1, Nat.sub_self]; rfl, rfl, rfl, HTL.out⟩⟩⟩
                          case measure => simp [intOf]; omega
                      · obtain rfl : k = flows.length := by omega
                        clear hlt
                        have HTN := Kept.mk (twice_net (n := ⟨caps, some ⟨bC, oC, none⟩, ck, flows, fA, fk⟩) (n' := ⟨C2, A2, k2, fs, A3, k3⟩) (l := l) HMB.out ⟨hlc, by dsimp only; rw [HC2.out, List.getD_eq_getElem?_getD, HCG.out]; rfl, HRE.out.1, fun i p hp => HRE.out.2 i p (List.getElem?_eq_some_iff.1 hp).1 hp⟩)
                        have HNA := Kept.mk (HT.out.netAt rfl rfl (fun c9 hc9 => by
                          rw [HC2.out, List.mem_append, List.mem_singleton] at hc9
                          rcases hc9 with h | rfl
                          · exact HT.out.net.c64 _ h
                          · exact HC25.out))
                        have RT2 := fun w h => rates_c ⟨C2, A2, k2, fs, A3, k3⟩ w h HTN.out.1 HTN.out.2.1
                        unfold nval at RT2
                        dsimp only at RT2
                        have t0 := HT.out.sb.cell 0 (v := .slice A2 C2.length k2) rfl
                        have t1 := HT.out.sb.cell 1 (v := .slice A3 fs.length k3) rfl
                        have t2 := HT.out.sb.lt
                        go_upto_region 44 with (go_at_call 7; refine (RT2 _ HNA.out).mono ?_; rintro e wv ⟨m2, gq2, rfl, hfin2, hrr2, hgq2, hbv⟩; have HFI2 := Kept.mk hfin2; have HRR2 := Kept.mk hrr2; have HT2 := Kept.mk (HT.out.new_ hbv); clear hfin2 hrr2 hgq2 hbv)
                        obtain ⟨rs2, hrs2⟩ : ∃ rs2, rs2 = (itr ⟨C2, A2, k2, fs, A3, k3⟩ m2).1 := ⟨_, rfl⟩
                        rw [← hrs2] at HRR2
                        have hg2 := fin_good HTN.out.2.1 HFI2.out
                        rw [← hrs2] at hg2
                        dsimp only at hg2
                        have EQ2 := fun W (h1 : RowBlk W gq2 32 ccell rs2) (h2 : RowBlk W gq 32 ccell rs) => equal_c rs2 rs (some ⟨gq2, 0, none⟩) (some ⟨gq, 0, none⟩) fs.length flows.length W (h1.rows ccell_len (by omega) h1.lt) (h2.rows ccell_len (by omega) h2.lt) (by rw [hg2.1, HG0.out.1]; exact HRE.out.1) (by rw [hg2.1, HRE.out.1]; omega) (fun r hr => okQ_R64 (hg2.2 r hr).1) (fun r hr => okQ_R64 (HG0.out.2 r hr).1) (fun i x y hx hy => by
                          have hi : i < flows.length := by rw [← HG0.out.1]; exact (List.getElem?_eq_some_iff.1 hy).1
                          have hsf := sim_fin HTN.out.2.2 HOK.out HTN.out.2.1 HFI.out HFI2.out i hi
                          rw [← hrs2, ← HRS.out, rt_get hx, rt_get hy, Rat.mul_one] at hsf
                          exact (cmpQ_val (hg2.2 x (List.mem_of_getElem? hx)).1 (HG0.out.2 y (List.mem_of_getElem? hy)).1).2.2 hsf)
                        rw [hg2.1, HG0.out.1] at EQ2
                        have hfq := HF9.out
                        obtain ⟨q, hqq⟩ : ∃ q : Nat, f9 % (flows.length : Int) = q := ⟨(f9 % (flows.length : Int)).toNat, by have := Int.emod_nonneg f9 (show (flows.length : Int) ≠ 0 by omega); omega⟩
                        have hqc : q < flows.length := by have := Int.emod_lt_of_pos f9 (show (0 : Int) < flows.length by omega); omega
                        have hqm : f9.tmod (flows.length : Int) = (q : Int) := by rw [Int.tmod_eq_emod_of_nonneg hfq.1]; exact hqq
                        have hqz2 : ¬ (flows.length : Int) = 0 := by omega
                        have hwq : IntKind.i64.wrap (q : Int) = q := IntWalk.i64_in _ (by omega)
                        have hwq9 : IntKind.i64.wrap f9 = f9 := IntWalk.i64_in _ (by omega)
                        clear hqq hfq hg2 hrs2 t0 t1 t2 HNA RT2 n0 n1 nl
                        have n0 := HT2.out.x.cell 0 (v := .slice (some ⟨bC, oC, none⟩) caps.length ck) rfl
                        have n1 := HT2.out.x.cell 1 (v := .slice fA flows.length fk) rfl
                        have nl := HT2.out.x.lt
                        go_upto_region 46 with (go_at_call 13; refine (EQ2 _ HRR2.out HT2.out.rr).mono ?_; rintro e wy ⟨rfl, hby⟩; have HT3 := Kept.mk (HT2.out.new_ hby); clear hby)
                        clear n0 n1 nl HT HRR2 EQ2
                        have n0 := HT3.out.x.cell 0 (v := .slice (some ⟨bC, oC, none⟩) caps.length ck) rfl
                        have n1 := HT3.out.x.cell 1 (v := .slice fA flows.length fk) rfl
                        have nl := HT3.out.x.lt
                        go_upto_region 47 with fail
                        obtain ⟨fe, hfe⟩ : ∃ fe, fe = flows.eraseIdx q := ⟨_, rfl⟩
                        have hfl1 : flows.length - 1 = fe.length := by rw [hfe, List.length_eraseIdx, if_pos hqc]
                        have hfl2 : fe.length + 1 = flows.length := by omega
                        have HFE9 := Kept.mk hfe
                        obtain ⟨Z, hZ, HZ⟩ : ∃ Z, Z = wy ∧ Kept (TA w Z ⟨caps, some ⟨bC, oC, none⟩, ck, flows, fA, fk⟩ gq rs b25 (.slice A2 C2.length k2) (.slice A3 fs.length k3) C2 fs b0 bb2) := ⟨_, rfl, HT3⟩
                        rw [← hZ]
                        have CLF : ∀ W, Below Z.heap.size Z W → Calls Try.prog 15 #[.slice fA flows.length fk] W (Clones W 37 4 flows.length (flows.flatMap fcell)) := fun W hb => cloneF_c _ _ _ _ W w.heap.size (HZ.out.new_ hb).net.flo.rd (Nat.le_trans HZ.out.blw.size hb.size) fcells_one (by omega)
                        have DEL : ∀ (W : World) (g k : Nat), W.ownsRow Z.heap.size 37 4 (.slice (some ⟨g, 0, none⟩) flows.length k) flows.length (flows.flatMap fcell) → Calls Try.prog 14 #[.slice (some ⟨g, 0, none⟩) flows.length k, .int .i64 (q : Int), .int .i64 ((q : Int) + 1)] W fun e w' => e = .returned (.slice (some ⟨g, 0, none⟩) fe.length k) ∧ Reads w' (g + 1) 4 (some ⟨g, 0, none⟩) fe.length (fcells fe) ∧ OnlyP (fun x => x = g) W w' := fun W g k ho => by
                          have h := del_c flows g k q W Z.heap.size ho hqc (by omega)
                          rw [hfl1, ← hfe] at h
                          exact h
                        have hwq1 : IntKind.i64.wrap ((q : Int) + 1) = (q : Int) + 1 := IntWalk.i64_in _ (by omega)
                        clear hZ HT3 HT2 n0 n1 nl hfe hfl1 hqm hwq9
                        go_cut [31] (fun s31 wx => ∃ b31 g5 k5 : Nat, s31 = .pointer (some ⟨b31, 0, none⟩) ∧ Kept (Blk wx b31 25 #[.slice (some ⟨bC, oC, none⟩) caps.length ck, .slice (some ⟨g5, 0, none⟩) fe.length k5] ∧ Reads wx (g5 + 1) 4 (some ⟨g5, 0, none⟩) fe.length (fcells fe) ∧ g5 < wx.heap.size ∧ (flows.length ≤ k5 ∧ k5 ≤ maxLen) ∧ Below Z.heap.size Z wx))
                        case first =>
                          refine with_act fun aq haq => ?_
                          refine wp_region_inv (fun L az w1z => ∃ (x31 x209 x210 x211 x212 x213 x214 x215 x216 x217 x218 : Value), az = (((((((((((aq.put (some 31) x31).put (some 209) x209).put (some 210) x210).put (some 211) x211).put (some 212) x212).put (some 213) x213).put (some 214) x214).put (some 215) x215).put (some 216) x216).put (some 217) x217).put (some 218) x218) ∧ (Below Z.heap.size Z w1z) ∧ (L.getD 0 false = true → x209 = .pointer (some ⟨w.heap.size, 0, none⟩)) ∧ (L.getD 1 false = true → x210 = .slice (some ⟨bC, oC, none⟩) caps.length ck) ∧ (L.getD 2 false = true → x211 = .pointer (some ⟨w.heap.size, 1, none⟩)) ∧ (L.getD 3 false = true → x212 = .slice fA flows.length fk) ∧ (L.getD 4 false = true → ∃ g k : Nat, x213 = .slice (some ⟨g, 0, none⟩) flows.length k ∧ Z.heap.size ≤ g ∧ (flows.length ≤ k ∧ k ≤ maxLen) ∧ (L.getD 8 false = false → w1z.ownsRow Z.heap.size 37 4 (.slice (some ⟨g, 0, none⟩) flows.length k) flows.length (flows.flatMap fcell))) ∧ (L.getD 5 false = true → x214 = .int .i64 (q : Int)) ∧ (L.getD 6 false = true → x215 = .int .i64 (q : Int)) ∧ (L.getD 7 false = true → x216 = .int .i64 ((q : Int) + 1)) ∧ (L.getD 8 false = true → ∃ g k : Nat, x217 = .slice (some ⟨g, 0, none⟩) fe.length k ∧ Z.heap.size ≤ g ∧ (flows.length ≤ k ∧ k ≤ maxLen) ∧ Reads w1z (g + 1) 4 (some ⟨g, 0, none⟩) fe.length (fcells fe) ∧ g < w1z.heap.size) ∧ (L.getD 9 false = true → x218 = .agg #[.slice (some ⟨bC, oC, none⟩) caps.length ck, x217]) ∧ (L.getD 10 false = true → ∃ b : Nat, x31 = .pointer (some ⟨b, 0, none⟩) ∧ Z.heap.size ≤ b ∧ Blk w1z b 25 (if L.getD 11 false = true then #[.slice (some ⟨bC, oC, none⟩) caps.length ck, x217] else #[.slice none 0 0, .slice none 0 0])) ∧ (L.getD 11 false = true → L.getD 10 false = true) ∧ (L.getD 11 false = true → L.getD 9 false = true) ∧ (L.getD 9 false = true → L.getD 8 false = true) ∧ (L.getD 8 false = true → L.getD 4 false = true) ∧ (L.getD 4 false = true → L.getD 8 false = false → L.getD 10 false = true → ∀ g k b : Nat, x213 = .slice (some ⟨g, 0, none⟩) flows.length k → x31 = .pointer (some ⟨b, 0, none⟩) → g ≠ b) ∧ (L.getD 8 false = true → L.getD 10 false = true → ∀ g k b : Nat, x217 = .slice (some ⟨g, 0, none⟩) fe.length k → x31 = .pointer (some ⟨b, 0, none⟩) → g ≠ b)) (by kernel_rfl) (by kernel_rfl) ?start ?oper ?done
                          case start =>
                            refine ⟨aq.tmps.getD 31 undef, aq.tmps.getD 209 undef, aq.tmps.getD 210 undef, aq.tmps.getD 211 undef, aq.tmps.getD 212 undef, aq.tmps.getD 213 undef, aq.tmps.getD 214 undef, aq.tmps.getD 215 undef, aq.tmps.getD 216 undef, aq.tmps.getD 217 undef, aq.tmps.getD 218 undef, by subst haq; simp only [Act.put, List.setIfInBounds_toArray, List.set_cons_zero, List.set_cons_succ, Array.getD_eq_getD_getElem?, List.getElem?_toArray, List.getElem?_cons_zero, List.getElem?_cons_succ, Option.getD_some], dN (Below.refl Z.heap.size Z) 1, none_yet, none_yet, none_yet, none_yet, none_yet, none_yet, none_yet, none_yet, none_yet, none_yet, none_yet, none_yet, none_yet, none_yet, none_yet, none_yet, none_yet⟩
                          case oper =>
                            intro L az w1z i hI hr
                            obtain ⟨x31, x209, x210, x211, x212, x213, x214, x215, x216, x217, x218, rfl, f0, f1, f2, f3, f4, f5, f6, f7, f8, f9, f10, f11, f12, f13, f14, f15, f16, f17⟩ := hI
                            subst haq
                            have hi : i < 12 := ready_lt hr
                            have hcase : i = 0 ∨ i = 1 ∨ i = 2 ∨ i = 3 ∨ i = 4 ∨ i = 5 ∨ i = 6 ∨ i = 7 ∨ i = 8 ∨ i = 9 ∨ i = 10 ∨ i = 11 := by omega
                            clear hi
                            rcases hcase with rfl | rfl | rfl | rfl | rfl | rfl | rfl | rfl | rfl | rfl | rfl | rfl
                            · refine inv_op rfl (fun K hK => ?_)
                              try simp only [Act.put, List.setIfInBounds_toArray, List.set_cons_zero, List.set_cons_succ]
                              go_simp
                              refine hK.out _ _ ⟨x31, .pointer (some ⟨w.heap.size, 0, none⟩), x210, x211, x212, x213, x214, x215, x216, x217, x218, (by simp only [Act.put, List.setIfInBounds_toArray, List.set_cons_zero, List.set_cons_succ]), f0, (fun _ => rfl), (fun h => by first | exact f2 (by rwa [set_other (by decide)] at h) | (rw [set_other (by decide)] at h ⊢; exact f2 h)), (fun h => by first | exact f3 (by rwa [set_other (by decide)] at h) | (rw [set_other (by decide)] at h ⊢; exact f3 h)), (fun h => by first | exact f4 (by rwa [set_other (by decide)] at h) | (rw [set_other (by decide)] at h ⊢; exact f4 h)), (fun h => by first | exact f5 (by rwa [set_other (by decide)] at h) | (rw [set_other (by decide)] at h ⊢; exact f5 h)), (fun h => by first | exact f6 (by rwa [set_other (by decide)] at h) | (rw [set_other (by decide)] at h ⊢; exact f6 h)), (fun h => by first | exact f7 (by rwa [set_other (by decide)] at h) | (rw [set_other (by decide)] at h ⊢; exact f7 h)), (fun h => by first | exact f8 (by rwa [set_other (by decide)] at h) | (rw [set_other (by decide)] at h ⊢; exact f8 h)), (fun h => by first | exact f9 (by rwa [set_other (by decide)] at h) | (rw [set_other (by decide)] at h ⊢; exact f9 h)), (fun h => by first | exact f10 (by rwa [set_other (by decide)] at h) | (rw [set_other (by decide)] at h ⊢; exact f10 h)), (fun h => by first | exact f11 (by rwa [set_other (by decide)] at h) | (rw [set_other (by decide)] at h ⊢; exact f11 h)), (fun h => by first | exact f12 (by rwa [set_other (by decide)] at h) | (rw [set_other (by decide)] at h ⊢; exact f12 h)), (fun h => by first | exact f13 (by rwa [set_other (by decide)] at h) | (rw [set_other (by decide)] at h ⊢; exact f13 h)), (fun h => by first | exact f14 (by rwa [set_other (by decide)] at h) | (rw [set_other (by decide)] at h ⊢; exact f14 h)), (fun h => by first | exact f15 (by rwa [set_other (by decide)] at h) | (rw [set_other (by decide)] at h ⊢; exact f15 h)), (fun h h8 h2 => f16 (by rwa [set_other (by decide)] at h) (by rwa [set_other (by decide)] at h8) (by rwa [set_other (by decide)] at h2)), (fun h h2 => f17 (by rwa [set_other (by decide)] at h) (by rwa [set_other (by decide)] at h2))⟩
                            · obtain rfl := f1 (ready_dep hr (d := 0) (by kernel_rfl))
                              have HH := HZ.out.new_ f0
                              have n0 := HH.x.cell 0 (v := .slice (some ⟨bC, oC, none⟩) caps.length ck) rfl
                              have n1 := HH.x.cell 1 (v := .slice fA flows.length fk) rfl
                              have nl := HH.x.lt
                              refine inv_op rfl (fun K hK => ?_)
                              try simp only [Act.put, List.setIfInBounds_toArray, List.set_cons_zero, List.set_cons_succ]
                              go_simp
                              refine hK.out _ _ ⟨x31, .pointer (some ⟨w.heap.size, 0, none⟩), .slice (some ⟨bC, oC, none⟩) caps.length ck, x211, x212, x213, x214, x215, x216, x217, x218, (by simp only [Act.put, List.setIfInBounds_toArray, List.set_cons_zero, List.set_cons_succ]), f0, (fun _ => rfl), (fun _ => rfl), (fun h => by first | exact f3 (by rwa [set_other (by decide)] at h) | (rw [set_other (by decide)] at h ⊢; exact f3 h)), (fun h => by first | exact f4 (by rwa [set_other (by decide)] at h) | (rw [set_other (by decide)] at h ⊢; exact f4 h)), (fun h => by first | exact f5 (by rwa [set_other (by decide)] at h) | (rw [set_other (by decide)] at h ⊢; exact f5 h)), (fun h => by first | exact f6 (by rwa [set_other (by decide)] at h) | (rw [set_other (by decide)] at h ⊢; exact f6 h)), (fun h => by first | exact f7 (by rwa [set_other (by decide)] at h) | (rw [set_other (by decide)] at h ⊢; exact f7 h)), (fun h => by first | exact f8 (by rwa [set_other (by decide)] at h) | (rw [set_other (by decide)] at h ⊢; exact f8 h)), (fun h => by first | exact f9 (by rwa [set_other (by decide)] at h) | (rw [set_other (by decide)] at h ⊢; exact f9 h)), (fun h => by first | exact f10 (by rwa [set_other (by decide)] at h) | (rw [set_other (by decide)] at h ⊢; exact f10 h)), (fun h => by first | exact f11 (by rwa [set_other (by decide)] at h) | (rw [set_other (by decide)] at h ⊢; exact f11 h)), (fun h => by first | exact f12 (by rwa [set_other (by decide)] at h) | (rw [set_other (by decide)] at h ⊢; exact f12 h)), (fun h => by first | exact f13 (by rwa [set_other (by decide)] at h) | (rw [set_other (by decide)] at h ⊢; exact f13 h)), (fun h => by first | exact f14 (by rwa [set_other (by decide)] at h) | (rw [set_other (by decide)] at h ⊢; exact f14 h)), (fun h => by first | exact f15 (by rwa [set_other (by decide)] at h) | (rw [set_other (by decide)] at h ⊢; exact f15 h)), (fun h h8 h2 => f16 (by rwa [set_other (by decide)] at h) (by rwa [set_other (by decide)] at h8) (by rwa [set_other (by decide)] at h2)), (fun h h2 => f17 (by rwa [set_other (by decide)] at h) (by rwa [set_other (by decide)] at h2))⟩
                            · refine inv_op rfl (fun K hK => ?_)
                              try simp only [Act.put, List.setIfInBounds_toArray, List.set_cons_zero, List.set_cons_succ]
                              go_simp
                              refine hK.out _ _ ⟨x31, x209, x210, .pointer (some ⟨w.heap.size, 1, none⟩), x212, x213, x214, x215, x216, x217, x218, (by simp only [Act.put, List.setIfInBounds_toArray, List.set_cons_zero, List.set_cons_succ]), f0, (fun h => by first | exact f1 (by rwa [set_other (by decide)] at h) | (rw [set_other (by decide)] at h ⊢; exact f1 h)), (fun h => by first | exact f2 (by rwa [set_other (by decide)] at h) | (rw [set_other (by decide)] at h ⊢; exact f2 h)), (fun _ => rfl), (fun h => by first | exact f4 (by rwa [set_other (by decide)] at h) | (rw [set_other (by decide)] at h ⊢; exact f4 h)), (fun h => by first | exact f5 (by rwa [set_other (by decide)] at h) | (rw [set_other (by decide)] at h ⊢; exact f5 h)), (fun h => by first | exact f6 (by rwa [set_other (by decide)] at h) | (rw [set_other (by decide)] at h ⊢; exact f6 h)), (fun h => by first | exact f7 (by rwa [set_other (by decide)] at h) | (rw [set_other (by decide)] at h ⊢; exact f7 h)), (fun h => by first | exact f8 (by rwa [set_other (by decide)] at h) | (rw [set_other (by decide)] at h ⊢; exact f8 h)), (fun h => by first | exact f9 (by rwa [set_other (by decide)] at h) | (rw [set_other (by decide)] at h ⊢; exact f9 h)), (fun h => by first | exact f10 (by rwa [set_other (by decide)] at h) | (rw [set_other (by decide)] at h ⊢; exact f10 h)), (fun h => by first | exact f11 (by rwa [set_other (by decide)] at h) | (rw [set_other (by decide)] at h ⊢; exact f11 h)), (fun h => by first | exact f12 (by rwa [set_other (by decide)] at h) | (rw [set_other (by decide)] at h ⊢; exact f12 h)), (fun h => by first | exact f13 (by rwa [set_other (by decide)] at h) | (rw [set_other (by decide)] at h ⊢; exact f13 h)), (fun h => by first | exact f14 (by rwa [set_other (by decide)] at h) | (rw [set_other (by decide)] at h ⊢; exact f14 h)), (fun h => by first | exact f15 (by rwa [set_other (by decide)] at h) | (rw [set_other (by decide)] at h ⊢; exact f15 h)), (fun h h8 h2 => f16 (by rwa [set_other (by decide)] at h) (by rwa [set_other (by decide)] at h8) (by rwa [set_other (by decide)] at h2)), (fun h h2 => f17 (by rwa [set_other (by decide)] at h) (by rwa [set_other (by decide)] at h2))⟩
                            · obtain rfl := f3 (ready_dep hr (d := 2) (by kernel_rfl))
                              have HH := HZ.out.new_ f0
                              have n0 := HH.x.cell 0 (v := .slice (some ⟨bC, oC, none⟩) caps.length ck) rfl
                              have n1 := HH.x.cell 1 (v := .slice fA flows.length fk) rfl
                              have nl := HH.x.lt
                              refine inv_op rfl (fun K hK => ?_)
                              try simp only [Act.put, List.setIfInBounds_toArray, List.set_cons_zero, List.set_cons_succ]
                              go_simp
                              refine hK.out _ _ ⟨x31, x209, x210, .pointer (some ⟨w.heap.size, 1, none⟩), .slice fA flows.length fk, x213, x214, x215, x216, x217, x218, (by simp only [Act.put, List.setIfInBounds_toArray, List.set_cons_zero, List.set_cons_succ]), f0, (fun h => by first | exact f1 (by rwa [set_other (by decide)] at h) | (rw [set_other (by decide)] at h ⊢; exact f1 h)), (fun h => by first | exact f2 (by rwa [set_other (by decide)] at h) | (rw [set_other (by decide)] at h ⊢; exact f2 h)), (fun _ => rfl), (fun _ => rfl), (fun h => by first | exact f5 (by rwa [set_other (by decide)] at h) | (rw [set_other (by decide)] at h ⊢; exact f5 h)), (fun h => by first | exact f6 (by rwa [set_other (by decide)] at h) | (rw [set_other (by decide)] at h ⊢; exact f6 h)), (fun h => by first | exact f7 (by rwa [set_other (by decide)] at h) | (rw [set_other (by decide)] at h ⊢; exact f7 h)), (fun h => by first | exact f8 (by rwa [set_other (by decide)] at h) | (rw [set_other (by decide)] at h ⊢; exact f8 h)), (fun h => by first | exact f9 (by rwa [set_other (by decide)] at h) | (rw [set_other (by decide)] at h ⊢; exact f9 h)), (fun h => by first | exact f10 (by rwa [set_other (by decide)] at h) | (rw [set_other (by decide)] at h ⊢; exact f10 h)), (fun h => by first | exact f11 (by rwa [set_other (by decide)] at h) | (rw [set_other (by decide)] at h ⊢; exact f11 h)), (fun h => by first | exact f12 (by rwa [set_other (by decide)] at h) | (rw [set_other (by decide)] at h ⊢; exact f12 h)), (fun h => by first | exact f13 (by rwa [set_other (by decide)] at h) | (rw [set_other (by decide)] at h ⊢; exact f13 h)), (fun h => by first | exact f14 (by rwa [set_other (by decide)] at h) | (rw [set_other (by decide)] at h ⊢; exact f14 h)), (fun h => by first | exact f15 (by rwa [set_other (by decide)] at h) | (rw [set_other (by decide)] at h ⊢; exact f15 h)), (fun h h8 h2 => f16 (by rwa [set_other (by decide)] at h) (by rwa [set_other (by decide)] at h8) (by rwa [set_other (by decide)] at h2)), (fun h h2 => f17 (by rwa [set_other (by decide)] at h) (by rwa [set_other (by decide)] at h2))⟩
                            · obtain rfl := f4 (ready_dep hr (d := 3) (by kernel_rfl))
                              have h8 : L.getD 8 false = false := by
                                cases hh : L.getD 8 false with
                                | false => rfl
                                | true => exact absurd (f15 hh) (by rw [ready_not hr]; decide)
                              have h9 : L.getD 9 false = false := by
                                cases hh : L.getD 9 false with
                                | false => rfl
                                | true => exact absurd (f15 (f14 hh)) (by rw [ready_not hr]; decide)
                              have h11 : L.getD 11 false = false := by
                                cases hh : L.getD 11 false with
                                | false => rfl
                                | true => exact absurd (f15 (f14 (f13 hh))) (by rw [ready_not hr]; decide)
                              refine inv_op rfl (fun K hK => ?_)
                              try simp only [Act.put, List.setIfInBounds_toArray, List.set_cons_zero, List.set_cons_succ]
                              go_simp
                              refine (CLF _ f0).mono ?_
                              rintro e w9 ⟨v9, rfl, ho9, hb9⟩
                              obtain ⟨g9, k9, hv9, -, hlt9⟩ := ho9.form (by omega)
                              subst hv9
                              have hg9 := (ho9.lt g9 rfl).1
                              have hz9 := f0.size
                              try simp only []
                              refine hK.out _ _ ⟨x31, x209, x210, x211, (.slice fA flows.length fk), .slice (some ⟨g9, 0, none⟩) flows.length k9, x214, x215, x216, x217, x218, (by simp only [Act.put, List.setIfInBounds_toArray, List.set_cons_zero, List.set_cons_succ]), join f0 hb9, (fun h => by first | exact f1 (by rwa [set_other (by decide)] at h) | (rw [set_other (by decide)] at h ⊢; exact f1 h)), (fun h => by first | exact f2 (by rwa [set_other (by decide)] at h) | (rw [set_other (by decide)] at h ⊢; exact f2 h)), (fun h => by first | exact f3 (by rwa [set_other (by decide)] at h) | (rw [set_other (by decide)] at h ⊢; exact f3 h)), (fun _ => rfl), (fun _ => ⟨g9, k9, rfl, by omega, own_cap ho9, fun _ => own_base ho9 f0.size⟩), (fun h => by first | exact f6 (by rwa [set_other (by decide)] at h) | (rw [set_other (by decide)] at h ⊢; exact f6 h)), (fun h => by first | exact f7 (by rwa [set_other (by decide)] at h) | (rw [set_other (by decide)] at h ⊢; exact f7 h)), (fun h => by first | exact f8 (by rwa [set_other (by decide)] at h) | (rw [set_other (by decide)] at h ⊢; exact f8 h)), (fun h => absurd h (by rw [set_other (by decide), h8]; decide)), (fun h => absurd h (by rw [set_other (by decide), h9]; decide)), (fun h => by rw [set_other (by decide)] at h ⊢; obtain ⟨b, e, hb, hB⟩ := f11 h; exact ⟨b, e, hb, hB.new_ hb9⟩), (fun h => by first | exact f12 (by rwa [set_other (by decide)] at h) | (rw [set_other (by decide)] at h ⊢; exact f12 h)), (fun h => by first | exact f13 (by rwa [set_other (by decide)] at h) | (rw [set_other (by decide)] at h ⊢; exact f13 h)), (fun h => by first | exact f14 (by rwa [set_other (by decide)] at h) | (rw [set_other (by decide)] at h ⊢; exact f14 h)), (fun _ => set_self hr), (fun _ _ h10 g k b e1 e2 => by rw [set_other (by decide)] at h10; obtain ⟨b1, eb, -, hB1⟩ := f11 h10; have := hB1.lt; rw [eb] at e2; injection e2 with e2; injection e2 with e2; injection e2 with e2; injection e1 with e1; injection e1 with e1; injection e1 with e1; omega), (fun h => absurd h (by rw [set_other (by decide), h8]; decide))⟩
                            · refine inv_op rfl (fun K hK => ?_)
                              try simp only [Act.put, List.setIfInBounds_toArray, List.set_cons_zero, List.set_cons_succ]
                              go_simp
                              refine hK.out _ _ ⟨x31, x209, x210, x211, x212, x213, .int .i64 (q : Int), x215, x216, x217, x218, (by simp only [Act.put, List.setIfInBounds_toArray, List.set_cons_zero, List.set_cons_succ]), f0, (fun h => by first | exact f1 (by rwa [set_other (by decide)] at h) | (rw [set_other (by decide)] at h ⊢; exact f1 h)), (fun h => by first | exact f2 (by rwa [set_other (by decide)] at h) | (rw [set_other (by decide)] at h ⊢; exact f2 h)), (fun h => by first | exact f3 (by rwa [set_other (by decide)] at h) | (rw [set_other (by decide)] at h ⊢; exact f3 h)), (fun h => by first | exact f4 (by rwa [set_other (by decide)] at h) | (rw [set_other (by decide)] at h ⊢; exact f4 h)), (fun h => by first | exact f5 (by rwa [set_other (by decide)] at h) | (rw [set_other (by decide)] at h ⊢; exact f5 h)), (fun _ => rfl), (fun h => by first | exact f7 (by rwa [set_other (by decide)] at h) | (rw [set_other (by decide)] at h ⊢; exact f7 h)), (fun h => by first | exact f8 (by rwa [set_other (by decide)] at h) | (rw [set_other (by decide)] at h ⊢; exact f8 h)), (fun h => by first | exact f9 (by rwa [set_other (by decide)] at h) | (rw [set_other (by decide)] at h ⊢; exact f9 h)), (fun h => by first | exact f10 (by rwa [set_other (by decide)] at h) | (rw [set_other (by decide)] at h ⊢; exact f10 h)), (fun h => by first | exact f11 (by rwa [set_other (by decide)] at h) | (rw [set_other (by decide)] at h ⊢; exact f11 h)), (fun h => by first | exact f12 (by rwa [set_other (by decide)] at h) | (rw [set_other (by decide)] at h ⊢; exact f12 h)), (fun h => by first | exact f13 (by rwa [set_other (by decide)] at h) | (rw [set_other (by decide)] at h ⊢; exact f13 h)), (fun h => by first | exact f14 (by rwa [set_other (by decide)] at h) | (rw [set_other (by decide)] at h ⊢; exact f14 h)), (fun h => by first | exact f15 (by rwa [set_other (by decide)] at h) | (rw [set_other (by decide)] at h ⊢; exact f15 h)), (fun h h8 h2 => f16 (by rwa [set_other (by decide)] at h) (by rwa [set_other (by decide)] at h8) (by rwa [set_other (by decide)] at h2)), (fun h h2 => f17 (by rwa [set_other (by decide)] at h) (by rwa [set_other (by decide)] at h2))⟩
                            · refine inv_op rfl (fun K hK => ?_)
                              try simp only [Act.put, List.setIfInBounds_toArray, List.set_cons_zero, List.set_cons_succ]
                              go_simp
                              refine hK.out _ _ ⟨x31, x209, x210, x211, x212, x213, x214, .int .i64 (q : Int), x216, x217, x218, (by simp only [Act.put, List.setIfInBounds_toArray, List.set_cons_zero, List.set_cons_succ]), f0, (fun h => by first | exact f1 (by rwa [set_other (by decide)] at h) | (rw [set_other (by decide)] at h ⊢; exact f1 h)), (fun h => by first | exact f2 (by rwa [set_other (by decide)] at h) | (rw [set_other (by decide)] at h ⊢; exact f2 h)), (fun h => by first | exact f3 (by rwa [set_other (by decide)] at h) | (rw [set_other (by decide)] at h ⊢; exact f3 h)), (fun h => by first | exact f4 (by rwa [set_other (by decide)] at h) | (rw [set_other (by decide)] at h ⊢; exact f4 h)), (fun h => by first | exact f5 (by rwa [set_other (by decide)] at h) | (rw [set_other (by decide)] at h ⊢; exact f5 h)), (fun h => by first | exact f6 (by rwa [set_other (by decide)] at h) | (rw [set_other (by decide)] at h ⊢; exact f6 h)), (fun _ => rfl), (fun h => by first | exact f8 (by rwa [set_other (by decide)] at h) | (rw [set_other (by decide)] at h ⊢; exact f8 h)), (fun h => by first | exact f9 (by rwa [set_other (by decide)] at h) | (rw [set_other (by decide)] at h ⊢; exact f9 h)), (fun h => by first | exact f10 (by rwa [set_other (by decide)] at h) | (rw [set_other (by decide)] at h ⊢; exact f10 h)), (fun h => by first | exact f11 (by rwa [set_other (by decide)] at h) | (rw [set_other (by decide)] at h ⊢; exact f11 h)), (fun h => by first | exact f12 (by rwa [set_other (by decide)] at h) | (rw [set_other (by decide)] at h ⊢; exact f12 h)), (fun h => by first | exact f13 (by rwa [set_other (by decide)] at h) | (rw [set_other (by decide)] at h ⊢; exact f13 h)), (fun h => by first | exact f14 (by rwa [set_other (by decide)] at h) | (rw [set_other (by decide)] at h ⊢; exact f14 h)), (fun h => by first | exact f15 (by rwa [set_other (by decide)] at h) | (rw [set_other (by decide)] at h ⊢; exact f15 h)), (fun h h8 h2 => f16 (by rwa [set_other (by decide)] at h) (by rwa [set_other (by decide)] at h8) (by rwa [set_other (by decide)] at h2)), (fun h h2 => f17 (by rwa [set_other (by decide)] at h) (by rwa [set_other (by decide)] at h2))⟩
                            · obtain rfl := f7 (ready_dep hr (d := 6) (by kernel_rfl))
                              refine inv_op rfl (fun K hK => ?_)
                              try simp only [Act.put, List.setIfInBounds_toArray, List.set_cons_zero, List.set_cons_succ]
                              go_simp
                              refine hK.out _ _ ⟨x31, x209, x210, x211, x212, x213, x214, .int .i64 (q : Int), .int .i64 ((q : Int) + 1), x217, x218, (by simp only [Act.put, List.setIfInBounds_toArray, List.set_cons_zero, List.set_cons_succ]), f0, (fun h => by first | exact f1 (by rwa [set_other (by decide)] at h) | (rw [set_other (by decide)] at h ⊢; exact f1 h)), (fun h => by first | exact f2 (by rwa [set_other (by decide)] at h) | (rw [set_other (by decide)] at h ⊢; exact f2 h)), (fun h => by first | exact f3 (by rwa [set_other (by decide)] at h) | (rw [set_other (by decide)] at h ⊢; exact f3 h)), (fun h => by first | exact f4 (by rwa [set_other (by decide)] at h) | (rw [set_other (by decide)] at h ⊢; exact f4 h)), (fun h => by first | exact f5 (by rwa [set_other (by decide)] at h) | (rw [set_other (by decide)] at h ⊢; exact f5 h)), (fun h => by first | exact f6 (by rwa [set_other (by decide)] at h) | (rw [set_other (by decide)] at h ⊢; exact f6 h)), (fun _ => rfl), (fun _ => rfl), (fun h => by first | exact f9 (by rwa [set_other (by decide)] at h) | (rw [set_other (by decide)] at h ⊢; exact f9 h)), (fun h => by first | exact f10 (by rwa [set_other (by decide)] at h) | (rw [set_other (by decide)] at h ⊢; exact f10 h)), (fun h => by first | exact f11 (by rwa [set_other (by decide)] at h) | (rw [set_other (by decide)] at h ⊢; exact f11 h)), (fun h => by first | exact f12 (by rwa [set_other (by decide)] at h) | (rw [set_other (by decide)] at h ⊢; exact f12 h)), (fun h => by first | exact f13 (by rwa [set_other (by decide)] at h) | (rw [set_other (by decide)] at h ⊢; exact f13 h)), (fun h => by first | exact f14 (by rwa [set_other (by decide)] at h) | (rw [set_other (by decide)] at h ⊢; exact f14 h)), (fun h => by first | exact f15 (by rwa [set_other (by decide)] at h) | (rw [set_other (by decide)] at h ⊢; exact f15 h)), (fun h h8 h2 => f16 (by rwa [set_other (by decide)] at h) (by rwa [set_other (by decide)] at h8) (by rwa [set_other (by decide)] at h2)), (fun h h2 => f17 (by rwa [set_other (by decide)] at h) (by rwa [set_other (by decide)] at h2))⟩
                            · have h8 := ready_not hr
                              have d4 := ready_dep hr (d := 4) (by kernel_rfl)
                              obtain rfl := f6 (ready_dep hr (d := 5) (by kernel_rfl))
                              obtain rfl := f8 (ready_dep hr (d := 7) (by kernel_rfl))
                              obtain ⟨g9, k9, e5, hg9, hk9, ho5⟩ := f5 d4
                              subst e5
                              have ho := ho5 h8
                              have hgl := (ho.lt g9 rfl).2
                              have h9 : L.getD 9 false = false := by
                                cases hh : L.getD 9 false with
                                | false => rfl
                                | true => exact absurd (f14 hh) (by rw [ready_not hr]; decide)
                              have h11 : L.getD 11 false = false := by
                                cases hh : L.getD 11 false with
                                | false => rfl
                                | true => exact absurd (f14 (f13 hh)) (by rw [ready_not hr]; decide)
                              refine inv_op rfl (fun K hK => ?_)
                              try simp only [Act.put, List.setIfInBounds_toArray, List.set_cons_zero, List.set_cons_succ]
                              go_simp
                              refine (DEL _ g9 k9 ho).mono ?_
                              rintro e w9 ⟨rfl, hrd, hon⟩
                              have hz9 := hon.size
                              try simp only []
                              refine hK.out _ _ ⟨x31, x209, x210, x211, x212, (.slice (some ⟨g9, 0, none⟩) flows.length k9), (.int .i64 (q : Int)), x215, (.int .i64 ((q : Int) + 1)), .slice (some ⟨g9, 0, none⟩) fe.length k9, x218, (by simp only [Act.put, List.setIfInBounds_toArray, List.set_cons_zero, List.set_cons_succ]), joinP f0 hon (fun k hk => by omega) (Nat.le_refl _), (fun h => by first | exact f1 (by rwa [set_other (by decide)] at h) | (rw [set_other (by decide)] at h ⊢; exact f1 h)), (fun h => by first | exact f2 (by rwa [set_other (by decide)] at h) | (rw [set_other (by decide)] at h ⊢; exact f2 h)), (fun h => by first | exact f3 (by rwa [set_other (by decide)] at h) | (rw [set_other (by decide)] at h ⊢; exact f3 h)), (fun h => by first | exact f4 (by rwa [set_other (by decide)] at h) | (rw [set_other (by decide)] at h ⊢; exact f4 h)), (fun _ => ⟨g9, k9, rfl, hg9, hk9, fun h => absurd h (by rw [set_self hr]; decide)⟩), (fun _ => rfl), (fun h => by first | exact f7 (by rwa [set_other (by decide)] at h) | (rw [set_other (by decide)] at h ⊢; exact f7 h)), (fun _ => rfl), (fun _ => ⟨g9, k9, rfl, hg9, hk9, hrd, by omega⟩), (fun h => absurd h (by rw [set_other (by decide), h9]; decide)), (fun h => by rw [set_other (by decide)] at h ⊢; obtain ⟨b, e, hb, hB⟩ := f11 h; rw [h11] at hB ⊢; exact ⟨b, e, hb, hB.only hon (fun e9 => f16 d4 h8 h g9 k9 b rfl e e9.symm)⟩), (fun h => by first | exact f12 (by rwa [set_other (by decide)] at h) | (rw [set_other (by decide)] at h ⊢; exact f12 h)), (fun h => by first | exact f13 (by rwa [set_other (by decide)] at h) | (rw [set_other (by decide)] at h ⊢; exact f13 h)), (fun _ => set_self hr), (fun _ => by rw [set_other (by decide)]; exact d4), (fun _ h => absurd h (by rw [set_self hr]; decide)), (fun _ h10 g k b e1 e2 => by rw [set_other (by decide)] at h10; injection e1 with e1; injection e1 with e1; injection e1 with e1; rw [← e1]; exact f16 d4 h8 h10 g9 k9 b rfl e2)⟩
                            · obtain rfl := f2 (ready_dep hr (d := 1) (by kernel_rfl))
                              have d8 := ready_dep hr (d := 8) (by kernel_rfl)
                              obtain ⟨g9, k9, e9, hg9, hk9, hR9, hlt9⟩ := f9 d8
                              subst e9
                              have h11 : L.getD 11 false = false := by
                                cases hh : L.getD 11 false with
                                | false => rfl
                                | true => exact absurd (f13 hh) (by rw [ready_not hr]; decide)
                              refine inv_op rfl (fun K hK => ?_)
                              try simp only [Act.put, List.setIfInBounds_toArray, List.set_cons_zero, List.set_cons_succ]
                              go_simp
                              refine hK.out _ _ ⟨x31, x209, (.slice (some ⟨bC, oC, none⟩) caps.length ck), x211, x212, x213, x214, x215, x216, (.slice (some ⟨g9, 0, none⟩) fe.length k9), .agg #[.slice (some ⟨bC, oC, none⟩) caps.length ck, .slice (some ⟨g9, 0, none⟩) fe.length k9], (by simp only [Act.put, List.setIfInBounds_toArray, List.set_cons_zero, List.set_cons_succ]), f0, (fun h => by first | exact f1 (by rwa [set_other (by decide)] at h) | (rw [set_other (by decide)] at h ⊢; exact f1 h)), (fun _ => rfl), (fun h => by first | exact f3 (by rwa [set_other (by decide)] at h) | (rw [set_other (by decide)] at h ⊢; exact f3 h)), (fun h => by first | exact f4 (by rwa [set_other (by decide)] at h) | (rw [set_other (by decide)] at h ⊢; exact f4 h)), (fun h => by first | exact f5 (by rwa [set_other (by decide)] at h) | (rw [set_other (by decide)] at h ⊢; exact f5 h)), (fun h => by first | exact f6 (by rwa [set_other (by decide)] at h) | (rw [set_other (by decide)] at h ⊢; exact f6 h)), (fun h => by first | exact f7 (by rwa [set_other (by decide)] at h) | (rw [set_other (by decide)] at h ⊢; exact f7 h)), (fun h => by first | exact f8 (by rwa [set_other (by decide)] at h) | (rw [set_other (by decide)] at h ⊢; exact f8 h)), (fun _ => ⟨g9, k9, rfl, hg9, hk9, hR9, hlt9⟩), (fun _ => rfl), (fun h => by rw [set_other (by decide)] at h ⊢; obtain ⟨b, e, hb, hB⟩ := f11 h; rw [h11] at hB ⊢; exact ⟨b, e, hb, hB⟩), (fun h => by first | exact f12 (by rwa [set_other (by decide)] at h) | (rw [set_other (by decide)] at h ⊢; exact f12 h)), (fun _ => set_self hr), (fun _ => by rw [set_other (by decide)]; exact d8), (fun h => by first | exact f15 (by rwa [set_other (by decide)] at h) | (rw [set_other (by decide)] at h ⊢; exact f15 h)), (fun h h8 h2 => f16 (by rwa [set_other (by decide)] at h) (by rwa [set_other (by decide)] at h8) (by rwa [set_other (by decide)] at h2)), (fun h h2 => f17 (by rwa [set_other (by decide)] at h) (by rwa [set_other (by decide)] at h2))⟩
                            · have h11 : L.getD 11 false = false := by
                                cases hh : L.getD 11 false with
                                | false => rfl
                                | true => exact absurd (f12 hh) (by rw [ready_not hr]; decide)
                              refine inv_op rfl (fun K hK => ?_)
                              try simp only [Act.put, List.setIfInBounds_toArray, List.set_cons_zero, List.set_cons_succ]
                              go_simp
                              refine hK.out _ _ ⟨.pointer (some ⟨w1z.heap.size, 0, none⟩), x209, x210, x211, x212, x213, x214, x215, x216, x217, x218, (by simp only [Act.put, List.setIfInBounds_toArray, List.set_cons_zero, List.set_cons_succ]), f0.alloc f0.size _, (fun h => by first | exact f1 (by rwa [set_other (by decide)] at h) | (rw [set_other (by decide)] at h ⊢; exact f1 h)), (fun h => by first | exact f2 (by rwa [set_other (by decide)] at h) | (rw [set_other (by decide)] at h ⊢; exact f2 h)), (fun h => by first | exact f3 (by rwa [set_other (by decide)] at h) | (rw [set_other (by decide)] at h ⊢; exact f3 h)), (fun h => by first | exact f4 (by rwa [set_other (by decide)] at h) | (rw [set_other (by decide)] at h ⊢; exact f4 h)), (fun h => by rw [set_other (by decide)] at h ⊢; obtain ⟨g, k, e, hg, hk, ho⟩ := f5 h; exact ⟨g, k, e, hg, hk, fun h8 => own_new (ho h8) ((Below.refl _ _).alloc (Nat.le_refl _) _)⟩), (fun h => by first | exact f6 (by rwa [set_other (by decide)] at h) | (rw [set_other (by decide)] at h ⊢; exact f6 h)), (fun h => by first | exact f7 (by rwa [set_other (by decide)] at h) | (rw [set_other (by decide)] at h ⊢; exact f7 h)), (fun h => by first | exact f8 (by rwa [set_other (by decide)] at h) | (rw [set_other (by decide)] at h ⊢; exact f8 h)), (fun h => by rw [set_other (by decide)] at h; obtain ⟨g, k, e, hg, hk, hR, hlt⟩ := f9 h; exact ⟨g, k, e, hg, hk, hR.alloc hlt _, by rw [World.size_alloc]; omega⟩), (fun h => by first | exact f10 (by rwa [set_other (by decide)] at h) | (rw [set_other (by decide)] at h ⊢; exact f10 h)), (fun _ => ⟨w1z.heap.size, rfl, f0.size, by rw [set_other (by decide), h11]; exact Blk.new _ _ _⟩), (fun _ => set_self hr), (fun h => by first | exact f13 (by rwa [set_other (by decide)] at h) | (rw [set_other (by decide)] at h ⊢; exact f13 h)), (fun h => by first | exact f14 (by rwa [set_other (by decide)] at h) | (rw [set_other (by decide)] at h ⊢; exact f14 h)), (fun h => by first | exact f15 (by rwa [set_other (by decide)] at h) | (rw [set_other (by decide)] at h ⊢; exact f15 h)), (fun h4 h8 _ g k b e1 e2 => by rw [set_other (by decide)] at h4 h8; obtain ⟨g1, k1, e, -, -, ho⟩ := f5 h4; have := ((ho h8).lt g1 rfl).2; rw [e] at e1; injection e2 with e2; injection e2 with e2; injection e2 with e2; injection e1 with e1; injection e1 with e1; injection e1 with e1; omega), (fun h8 _ g k b e1 e2 => by rw [set_other (by decide)] at h8; obtain ⟨g1, k1, e, -, -, -, hlt⟩ := f9 h8; rw [e] at e1; injection e2 with e2; injection e2 with e2; injection e2 with e2; injection e1 with e1; injection e1 with e1; injection e1 with e1; omega)⟩
                            · have h11 := ready_not hr
                              have d10 := ready_dep hr (d := 10) (by kernel_rfl)
                              have d9 := ready_dep hr (d := 9) (by kernel_rfl)
                              have d8 := f14 d9
                              obtain ⟨b, eb, hb, hB⟩ := f11 d10
                              rw [h11] at hB
                              obtain ⟨g9, k9, e9, hg9, hk9, hR9, hlt9⟩ := f9 d8
                              have e10 := f10 d9
                              have ne9 := f17 d8 d10 g9 k9 b e9 eb
                              have q0 := hB.cell 0 (v := .slice none 0 0) rfl
                              have q1 := hB.cell 1 (v := .slice none 0 0) rfl
                              have p0 := hB.free 0
                              have p1 := hB.free 1
                              have q9 := hB.lt
                              subst e9
                              subst e10
                              subst eb
                              refine inv_op rfl (fun K hK => ?_)
                              try simp only [Act.put, List.setIfInBounds_toArray, List.set_cons_zero, List.set_cons_succ]
                              go_simp
                              refine hK.out _ _ ⟨(.pointer (some ⟨b, 0, none⟩)), x209, x210, x211, x212, x213, x214, x215, x216, (.slice (some ⟨g9, 0, none⟩) fe.length k9), (.agg #[.slice (some ⟨bC, oC, none⟩) caps.length ck, .slice (some ⟨g9, 0, none⟩) fe.length k9]), (by simp only [Act.put, List.setIfInBounds_toArray, List.set_cons_zero, List.set_cons_succ]), ((f0.setCell hb _).setCell hb _), (fun h => by first | exact f1 (by rwa [set_other (by decide)] at h) | (rw [set_other (by decide)] at h ⊢; exact f1 h)), (fun h => by first | exact f2 (by rwa [set_other (by decide)] at h) | (rw [set_other (by decide)] at h ⊢; exact f2 h)), (fun h => by first | exact f3 (by rwa [set_other (by decide)] at h) | (rw [set_other (by decide)] at h ⊢; exact f3 h)), (fun h => by first | exact f4 (by rwa [set_other (by decide)] at h) | (rw [set_other (by decide)] at h ⊢; exact f4 h)), (fun h => by rw [set_other (by decide)] at h ⊢; obtain ⟨g, k, e, hg, hk, ho⟩ := f5 h; exact ⟨g, k, e, hg, hk, fun h8 => absurd h8 (by rw [d8]; decide)⟩), (fun h => by first | exact f6 (by rwa [set_other (by decide)] at h) | (rw [set_other (by decide)] at h ⊢; exact f6 h)), (fun h => by first | exact f7 (by rwa [set_other (by decide)] at h) | (rw [set_other (by decide)] at h ⊢; exact f7 h)), (fun h => by first | exact f8 (by rwa [set_other (by decide)] at h) | (rw [set_other (by decide)] at h ⊢; exact f8 h)), (fun _ => ⟨g9, k9, rfl, hg9, hk9, (hR9.put ne9).put ne9, by simpa using hlt9⟩), (fun _ => rfl), (fun _ => ⟨b, rfl, hb, by rw [set_self hr]; exact (hB.set_ 0 _).to 1 _ rfl⟩), (fun _ => by rw [set_other (by decide)]; exact d10), (fun _ => by rw [set_other (by decide)]; exact d9), (fun h => by first | exact f14 (by rwa [set_other (by decide)] at h) | (rw [set_other (by decide)] at h ⊢; exact f14 h)), (fun h => by first | exact f15 (by rwa [set_other (by decide)] at h) | (rw [set_other (by decide)] at h ⊢; exact f15 h)), (fun _ h => absurd h (by rw [set_other (by decide), d8]; decide)), (fun _ _ g k b1 e1 e2 => by injection e2 with e2; injection e2 with e2; injection e2 with e2; injection e1 with e1; injection e1 with e1; injection e1 with e1; omega)⟩
                          case done =>
                            intro L az w1z hI hall
                            obtain ⟨x31, x209, x210, x211, x212, x213, x214, x215, x216, x217, x218, rfl, f0, f1, f2, f3, f4, f5, f6, f7, f8, f9, f10, f11, f12, f13, f14, f15, f16, f17⟩ := hI
                            subst haq
                            simp only [Act.put, List.setIfInBounds_toArray, List.set_cons_zero, List.set_cons_succ]
                            go_wp2_with fail
                            go_meet
                            obtain ⟨b, eb, hb, hB⟩ := f11 (hall 10 (by decide))
                            obtain ⟨g5, k5, e5, hg5, hk5, hR5, hlt5⟩ := f9 (hall 8 (by decide))
                            rw [hall 11 (by decide), e5] at hB
                            exact ⟨b, g5, k5, eb, ⟨hB, hR5, hlt5, hk5, f0⟩⟩
                        case rest =>
                          obtain ⟨b31, g5, k5, rfl, HB31⟩ := hcut
                          have HT4 := Kept.mk (HZ.out.new_ HB31.out.2.2.2.2)
                          have HLN := Kept.mk (less_net (n := ⟨caps, some ⟨bC, oC, none⟩, ck, flows, fA, fk⟩) (n' := ⟨caps, some ⟨bC, oC, none⟩, ck, fe, some ⟨g5, 0, none⟩, k5⟩) (q := q) HMB.out hqc rfl HFE9.out)
                          have HNA3 : Kept (NetAt wc wc.heap.size ⟨caps, some ⟨bC, oC, none⟩, ck, fe, some ⟨g5, 0, none⟩, k5⟩) := ⟨⟨HT4.out.net.cap.more HT4.out.blw.size, ⟨by omega, fcell_len, HB31.out.2.1.more HB31.out.2.2.1⟩, fun p hp => by
                            dsimp only at hp
                            rw [HFE9.out] at hp
                            have h := HT4.out.net.fl p (List.mem_of_mem_eraseIdx hp)
                            exact ⟨h.rd.more HT4.out.blw.size, h.le, h.mx, h.r64⟩, HT4.out.net.c64, HT4.out.net.cle, ⟨by have := HB31.out.2.2.2.1; dsimp only; omega, HB31.out.2.2.2.1.2⟩⟩⟩
                          have RT3 := fun w h => rates_c ⟨caps, some ⟨bC, oC, none⟩, ck, fe, some ⟨g5, 0, none⟩, k5⟩ w h HLN.out.1 HLN.out.2.1
                          unfold nval at RT3
                          dsimp only at RT3
                          have t0 := HB31.out.1.cell 0 (v := .slice (some ⟨bC, oC, none⟩) caps.length ck) rfl
                          have t1 := HB31.out.1.cell 1 (v := .slice (some ⟨g5, 0, none⟩) fe.length k5) rfl
                          have t2 := HB31.out.1.lt
                          have hs1 : IntKind.i64.wrap ((flows.length : Int) - 1) = (fe.length : Int) := by rw [IntWalk.i64_in _ (by omega)]; omega
                          clear HZ CLF DEL
                          go_upto_region 49 with (go_at_call 7; refine (RT3 _ HNA3.out).mono ?_; rintro e wv3 ⟨m3, gq3, rfl, hfin3, hrr3, hgq3, hbv3⟩; have HFI3 := Kept.mk hfin3; have HRR3 := Kept.mk hrr3; have HT5 := Kept.mk (HT4.out.new_ hbv3); clear hfin3 hrr3 hgq3 hbv3)
                          clear t0 t1 t2 HNA3 RT3
                          obtain ⟨rs3, hrs3⟩ : ∃ rs3, rs3 = (itr ⟨caps, some ⟨bC, oC, none⟩, ck, fe, some ⟨g5, 0, none⟩, k5⟩ m3).1 := ⟨_, rfl⟩
                          rw [← hrs3] at HRR3
                          have hg3 := fin_good HLN.out.2.1 HFI3.out
                          rw [← hrs3] at hg3
                          dsimp only at hg3
                          by_cases hf0 : fe.length = 0
                          · have hz3 : ((fe.length : Int) == 0) = true := by rw [hf0]; rfl
                            clear hf0 hg3 hrs3
                            go_wp2_with fail
                            go_ret
                            exact ⟨rfl, HT5.out.blw⟩
                          · have hz3 : ((fe.length : Int) == 0) = false := beq_false_of_ne (by omega)
                            have MF3 := fun W (h : RowBlk W gq3 32 ccell rs3) => minf_c rs3 (some ⟨gq3, 0, none⟩) fe.length W (h.rows ccell_len (by omega) h.lt) (by rw [hg3.1]; omega) (by rw [hg3.1]; omega) (fun r hr => (hg3.2 r hr).1)
                            have MF0 := fun W (h : RowBlk W gq 32 ccell rs) => minf_c rs (some ⟨gq, 0, none⟩) flows.length W (h.rows ccell_len (by omega) h.lt) (by rw [HG0.out.1]; omega) (by rw [HG0.out.1]; omega) (fun r hr => (HG0.out.2 r hr).1)
                            have GE : Kept (∀ r3 r0 : Rq, r3 ∈ rs3 → r0 ∈ rs → (∀ x ∈ rs, val r0 ≤ val x) → 0 ≤ cmpQ r3 r0 ∧ (R64 r3.n ∧ R64 r3.d) ∧ (R64 r0.n ∧ R64 r0.d)) := ⟨fun r3 r0 h3 h0 hle => by
                              have o3 := (hg3.2 r3 h3).1
                              have o0 := (HG0.out.2 r0 h0).1
                              refine ⟨?_, okQ_R64 o3, okQ_R64 o0⟩
                              have hfi := HFI.out
                              obtain ⟨m', hm'⟩ := fin_pos hfi (by dsimp only; omega)
                              obtain ⟨i, hi, -, he⟩ := rate_eq HOK.out m' (fun j hj => hfi.1 j (by omega))
                              rw [← hm', ← HRS.out] at he
                              have hil : i < rs.length := by rw [HG0.out.1]; exact hi
                              obtain ⟨x, hx⟩ := get_some hil
                              rw [rt_get hx] at he
                              have a1 := hle x (List.mem_of_getElem? hx)
                              obtain ⟨i3, hi3⟩ := List.getElem?_of_mem h3
                              have hi3l : i3 < fe.length := by rw [← hg3.1]; exact (List.getElem?_eq_some_iff.1 hi3).1
                              have hs3 := itr_ok HLN.out.2.1 m3 HFI3.out.1
                              have a2 := rates_ge HLN.out.2.1 m3 HFI3.out.1 i3 hi3l (all_frozen hs3.lz HFI3.out.2 hi3l)
                              rw [← hrs3, rt_get hi3] at a2
                              have a3 := less_lv HLN.out.2.2 HOK.out HLN.out.2.1 (by dsimp only; omega)
                              refine Int.not_lt.1 fun hlt => ?_
                              have a4 := (cmpQ_val o3 o0).1.1 hlt
                              have a5 : val r0 ≤ val r3 := Rat.le_trans a1 (by rw [he]; exact Rat.le_trans a3 a2)
                              exact Rat.not_lt.2 a5 a4⟩
                            rw [hg3.1] at MF3
                            rw [HG0.out.1] at MF0
                            have tok1 : True := trivial
                            clear hf0 hg3 hrs3
                            go_wp2_with (first | (go_at_call 16; have _t := tok1; refine (MF3 _ HRR3.out).mono ?_; rintro e wx1 ⟨r3, hr3, rfl, -, hbx1⟩; have HR3 := Kept.mk hr3; have HT6 := Kept.mk (HT5.out.new_ hbx1); clear hbx1 hr3 tok1 _t; have tok2 : True := trivial) | (go_at_call 16; have _t := tok2; refine (MF0 _ HT6.out.rr).mono ?_; rintro e wx2 ⟨r0, hr0, rfl, hle0, hbx2⟩; have HGE := Kept.mk (GE.out r3 r0 HR3.out hr0 hle0); have HT7 := Kept.mk (HT6.out.new_ hbx2); clear hbx2 hr0 hle0 tok2 _t) | (go_at_call 9; refine (cmp_c r3 r0 _ HGE.out.2.1.1 HGE.out.2.1.2 HGE.out.2.2.1 HGE.out.2.2.2).mono ?_; rintro e wx3 ⟨rfl, hbx3⟩; have HT8 := Kept.mk (HT7.out.new_ hbx3); clear hbx3; have HG9 := Kept.mk HGE.out.1; obtain ⟨z9, hz9⟩ : ∃ z, cmpQ r3 r0 = z := ⟨_, rfl⟩; rw [hz9] at HG9 ⊢; clear hz9; have hz8 := HG9.out))
                            go_ret
                            exact ⟨rfl, HT8.out.blw⟩
end Go.Proofs.Ytjalegdfofogcaa
