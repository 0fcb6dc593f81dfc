/- For all rooms and needs the statement SetupPlain returns true: without losses, a connection is set up exactly if every hop has room. No condition. -/
import Derived.Test.YtnmgnggchgckoaaBase
import Derived.Test.YtnmgnggchgckoaaRun
namespace Go.Proofs.Ytnmgnggchgckoaa
open Go.ChangeShapes Go.WideShapes Go.ChangeAt Go.RowKit
set_option linter.unusedVariables false
set_option linter.unusedSimpArgs false
/-- The world of the statement. -/
structure PW (w : World) (L : Loc) (A : Option Addr) (kap B P Q : Nat) (l : List Int) (need : Int) (c : Ch) (wr : World) : Prop where
  rooms : c.rooms = l
  need : c.need = need
  ch : IsCh wr L c
  list : Reads wr B 1 A l.length (iv l)
  lowS : B ≤ L.S
  base : w.heap.size ≤ B
  bp : Blk wr P 22 #[.slice A l.length kap]
  bq : Blk wr Q 24 #[.pointer (some ⟨L.p, 0, none⟩)]
  below : Below w.heap.size w wr
section
variable {w wr w1 : World} {L : Loc} {A : Option Addr} {kap B P Q : Nat} {l : List Int} {need : Int} {c : Ch}
theorem PW.n (h : PW w L A kap B P Q l need c wr) : c.n = l.length := by rw [← h.rooms]; exact h.ch.ok.len.symm
theorem PW.new_ (h : PW w L A kap B P Q l need c wr) (hb : Below wr.heap.size wr w1) : PW w L A kap B P Q l need c w1 :=
  ⟨h.rooms, h.need, h.ch.new_ hb, h.list.below (hb.mono (by have := h.lowS; have := h.ch.row.lt; omega)), h.lowS, h.base, h.bp.new_ hb, h.bq.new_ hb, join h.below hb⟩
theorem PW.turn (h : PW w L A kap B P Q l need c wr) {c' : Ch} (ha : Alike c c') (hc : IsCh w1 L c') (hb : OnlyP (fun x => x = L.S) wr w1) : PW w L A kap B P Q l need c' w1 :=
  ⟨ha.rooms.trans h.rooms, ha.need.trans h.need, hc, reads_only h.list hb (by rintro k rfl; exact h.lowS) (by have := h.lowS; have := h.ch.row.lt; omega), h.lowS, h.base,
    h.bp.only hb (Blk.ne_ h.bp h.ch.row (by decide)), h.bq.only hb (Blk.ne_ h.bq h.ch.row (by decide)), h.below.trans (hb.below (B := w.heap.size) (by rintro k rfl; exact Nat.le_trans h.base h.lowS) h.below.size)⟩
end
theorem Drewn.pw {w wr w1 : World} {L : Loc} {A : Option Addr} {kap B P Q : Nat} {l : List Int} {need : Int} {c : Ch} (hd : Drewn wr w1) (h : PW w L A kap B P Q l need c wr) : PW w L A kap B P Q l need c w1 := by
  obtain ⟨k, rfl⟩ := hd; exact h.new_ (dN (Below.refl _ _) k)
theorem pw_lw {w wr : World} {L : Loc} {A : Option Addr} {kap B P Q : Nat} {l : List Int} {need : Int} {c c' : Ch} {f : List Msg} {A2 : Option Addr} {k2 B2 : Nat} (h : PW w L A kap B P Q l need c wr) (hr : runP (4 * c.n) c f = (c', [], true)) (hf : f.length ≤ 1)
    (ho : wr.ownsRow B2 38 3 (.slice A2 f.length k2) f.length (mcells f)) : LW wr L P Q A l.length kap c c' 0 f (.slice A2 f.length k2) wr :=
  ⟨⟨by rw [Nat.sub_zero, ← h.n]; exact hr, hf⟩, h.ch, ⟨_, _, rfl, own_cap ho, own_reads ho⟩, h.bp, h.bq, OnlyP.refl _ _⟩
theorem Alike.of {a b c : Ch} (h : Alike c a) (k : Alike c b) : Alike a b := ⟨k.conn.trans h.conn.symm, k.need.trans h.need.symm, k.rooms.trans h.rooms.symm, k.n.trans h.n.symm⟩
theorem pw_cells {w wr : World} {L : Loc} {ad : Addr} {kap B P Q : Nat} {l : List Int} {need : Int} {c : Ch} (h : PW w L (some ad) kap B P Q l need c wr) : ∀ i, i < l.length → wr.cell? (ad.add i) = some (.int .i64 (l.getD i 0)) := fun i hi => by
  obtain ⟨ad', v, e1, -, hx, hc⟩ := h.list.at_ hi
  injection e1 with e1
  subst e1
  rw [iv_get hi] at hx
  injection hx with hx
  rw [hx]; exact hc
theorem left_all {c : Ch} {i : Nat} (hi : i < c.n) (h : c.st i = 3 ∨ c.st i = 5) : leftP c i = c.room i := by
  have hb : c.hasB i = true := hasB_iff.2 ⟨by omega, by omega⟩
  have hh : heldB (c.st i) = false := by rcases h with h | h <;> rw [h] <;> rfl
  simp [leftP, hb, hh]
theorem state_at {c : Ch} {i : Nat} (hi : i < c.n) : stateP c i = c.st i := by
  have hb : c.hasB i = true := hasB_iff.2 ⟨by omega, by omega⟩
  simp [stateP, hb]
set_option maxRecDepth 100000 in
set_option maxHeartbeats 16000000 in
theorem walkSetupPlain (a0 : Option Addr) (len0 cap0 : Nat) (a1 : Int) (w : World) (w0 : IsRows w 1 IsByte a0 len0 cap0) (w1 : (Lit.int .u8 a1).wf = true) :
    Calls Try.prog 4 #[.slice a0 len0 cap0, .int .u8 a1] w fun e w' => e = .returned (.bool true) ∧ Below w.heap.size w w' := by
  obtain ⟨n0, n1⟩ := bounds_u8 w1
  have hmax0 := w0.2.1
  have hcap0 := w0.1
  unfold maxLen at hmax0
  obtain ⟨bs, rfl, hbs, hr⟩ := rows_bytes w0
  have HR := Kept.mk hr
  have HBS := Kept.mk hbs
  clear w0 w1 hr hbs
  by_cases hl : 16 < bs.length
  · go_enter Try.func4, Try.ntmps4
    go_wp2_with fail
    refine (awake_c _).mono ?_
    rintro e wa ⟨rfl, hba⟩
    have HBA := Kept.mk hba
    clear hba
    go_wp2_with fail
    refine (awake_c _).mono ?_
    rintro e wb ⟨rfl, hbb⟩
    have HBB := Kept.mk (join HBA.out hbb)
    clear hbb
    go_wp2_with fail
    go_ret
    exact ⟨rfl, HBB.out⟩
  · have hl3 : bs.length ≤ 16 := by omega
    clear hl
    have hll : (chainL bs).length ≤ 8 := by rw [chainL_len]; omega
    have hll0 : 1 ≤ (chainL bs).length := by rw [chainL_len]; omega
    have hnd0 : 1 ≤ 1 + a1 % 4 := by omega
    have hnd1 : 1 + a1 % 4 ≤ 4 := by omega
    have HZ : Kept (∀ i, (start0 5 (chainL bs) (1 + a1 % 4)).st i = 0) := ⟨fun i => by simp only [start0, Ch.st, List.getD_eq_getElem?_getD, List.getElem?_replicate]; split <;> rfl⟩
    have HRM : Kept ((start0 5 (chainL bs) (1 + a1 % 4)).rooms = chainL bs ∧ (start0 5 (chainL bs) (1 + a1 % 4)).need = 1 + a1 % 4) := ⟨rfl, rfl⟩
    go_enter Try.func4, Try.ntmps4
    go_wp2_with fail
    refine (awake_c _).mono ?_
    rintro e wa ⟨rfl, hba⟩
    have HBA := Kept.mk hba
    have HRa := Kept.mk (HR.out.below hba)
    have hza := hba.size
    clear hba
    go_wp2_with fail
    refine (chain_c bs a0 cap0 a1 _ (HRa.out.more hza) HBS.out n0 n1 (by omega)).mono ?_
    rintro e wb ⟨L, A, kap, B, rfl, hch⟩
    have HT0 : Kept (PW w L A kap B (wb.heap.size + 1) wb.heap.size (chainL bs) (1 + a1 % 4) (start0 5 (chainL bs) (1 + a1 % 4)) ((wb.alloc (.cells #[.pointer (some ⟨L.p, 0, none⟩)] 24)).alloc (.cells #[.slice A (chainL bs).length kap] 22))) := ⟨by
      have hB : B ≤ wb.heap.size := by have := hch.S; have := hch.ch.row.lt; omega
      refine ⟨HRM.out.1, HRM.out.2, (hch.ch.alloc _).alloc _, (hch.list.alloc hB _).alloc (by simp; omega) _, hch.S, Nat.le_trans hza hch.low, boxB, boxA, ?_⟩
      exact ((join HBA.out hch.below).alloc (Nat.le_trans hza hch.below.size) _).alloc (by have := hch.below.size; simp; omega) _⟩
    clear hch
    generalize start0 5 (chainL bs) (1 + a1 % 4) = c0 at *
    generalize chainL bs = l at *
    generalize 1 + a1 % 4 = need at *
    go_wp2_with fail
    obtain ⟨Q, hQ⟩ : ∃ Q, Q = wb.heap.size := ⟨_, rfl⟩
    obtain ⟨P, hP⟩ : ∃ P, P = wb.heap.size + 1 := ⟨_, rfl⟩
    obtain ⟨w2, hw2⟩ : ∃ w2, w2 = (wb.alloc (.cells #[.pointer (some ⟨L.p, 0, none⟩)] 24)).alloc (.cells #[.slice A l.length kap] 22) := ⟨_, rfl⟩
    rw [← hw2, ← hP, ← hQ] at HT0
    rw [← hw2]
    simp only [← hP]
    simp only [← hQ]
    clear hw2 hP hQ
    have hcn : c0.n = l.length := HT0.out.n
    obtain ⟨hs1, c1, hs2, hs3, hs4⟩ := start_run (c := c0) (by omega) (fun i _ => HZ.out i)
    have HS2 := Kept.mk hs2
    have HS3 := Kept.mk hs3
    have HA1 := Kept.mk (alike_start c0)
    have hr0 : c0.room 0 = l.getD 0 0 := by unfold Ch.room; rw [HT0.out.rooms]
    rw [hr0, HT0.out.need] at hs4
    clear hs2 hs3 hr0 hcn HZ HRM
    obtain ⟨ad, v0, rfl, hadb, hx0, hcl0⟩ := HT0.out.list.at_ (show 0 < l.length by omega)
    clear hx0 hcl0 v0 hadb
    obtain ⟨r0, hr0⟩ : ∃ r0, l.getD 0 0 = r0 := ⟨_, rfl⟩
    rw [hr0] at hs4
    have HR0 := Kept.mk hr0
    clear hr0
    have hrp0 := (pw_cells HT0.out 0 (by omega))
    have hrb := HT0.out.ch.ok.room 0 (by have := HT0.out.n; omega)
    have hrr : c0.room 0 = r0 := by unfold Ch.room; rw [HT0.out.rooms]; exact HR0.out
    rw [hrr] at hrb
    clear hrp0 hrr
    rcases hs4 with ⟨hs4, hs5⟩ | ⟨hs4, hs5⟩
    all_goals
      have HS5 := Kept.mk hs5
      clear hs5
      have cP := HT0.out.bp.cell 0 (v := .slice (some ad) l.length kap) rfl
      have cQ := HT0.out.bq.cell 0 (v := .pointer (some ⟨L.p, 0, none⟩)) rfl
      have lP := HT0.out.bp.lt
      have lQ := HT0.out.bq.lt
      go_wp2_with fail
      refine (start_c c0 _ L HT0.out.ch).mono ?_
      rintro e w3 ⟨v, rfl, ho, hc, hO⟩
      obtain ⟨A2, k2, rfl⟩ := own_slice ho
      have HT3 := Kept.mk (HT0.out.turn HA1.out hc hO)
      have HN3 : Kept (runP (4 * (startP c0).1.n) (startP c0).1 (startP c0).2.1 = (c1, [], true)) := ⟨by rw [HA1.out.n]; exact HS2.out⟩
      have HLW := Kept.mk (pw_lw HT3.out HN3.out hs1 ho)
      have HA3 := Kept.mk (Alike.of HA1.out HS3.out.alike)
      rw [HS5.out]
      clear ho hc hO cP cQ lP lQ
      have cP := HT3.out.bp.cell 0 (v := .slice (some ad) l.length kap) rfl
      have cQ := HT3.out.bq.cell 0 (v := .pointer (some ⟨L.p, 0, none⟩)) rfl
      have lP := HT3.out.bp.lt
      have lQ := HT3.out.bq.lt
      have cl0 := pw_cells HT3.out 0 (by omega)
      have cl00 := cl0
      rw [show ad.add 0 = ad by simp [Addr.add]] at cl00
      rw [HR0.out] at cl0 cl00
      generalize startP c0 = q at *
      go_wp2_with fail
      refine (run_c q.1 c1 q.2.1 _ _ L P Q _ l.length kap (by omega) HLW.out).mono ?_
      rintro e w4 ⟨rfl, hc4, hO4⟩
      have HT4 := Kept.mk (HT3.out.turn HA3.out hc4 hO4)
      clear hc4 hO4 cl0 cl00 cP cQ lP lQ
      have cP := HT4.out.bp.cell 0 (v := .slice (some ad) l.length kap) rfl
      have cQ := HT4.out.bq.cell 0 (v := .pointer (some ⟨L.p, 0, none⟩)) rfl
      have lP := HT4.out.bp.lt
      have lQ := HT4.out.bq.lt
      go_wp2_with fail
      refine (min_c l _ kap _ B HT4.out.list (by omega) (by omega)).mono ?_
      rintro e w' ⟨mn, rfl, rfl, hmn⟩
      have HMN := Kept.mk hmn
      have hm0 := hmn.1 0 (by omega)
      rw [HR0.out] at hm0
      clear hmn
      have hn1 : c1.n = l.length := HT4.out.n
      have hn0 : c0.n = l.length := HT0.out.n
      have HRO : Kept (∀ i, c0.room i = l.getD i 0) := ⟨fun i => by unfold Ch.room; rw [HT0.out.rooms]⟩
      have HND : Kept (c0.need = need) := ⟨HT0.out.need⟩
      have HST : Kept (stateP c1 0 = c1.st 0) := ⟨state_at (i := 0) (by omega)⟩
      by_cases hall : need ≤ mn
      · have H2 : Kept (∀ i, i < c1.n → c1.st i = 2) := ⟨fun i hi => HS3.out.all (fun j hj => by rw [HRO.out, HND.out]; have := HMN.out.1 j (by omega); omega) i (by omega)⟩
        have HST2 : Kept (stateP c1 0 = 2) := ⟨by rw [HST.out]; exact H2.out 0 (by omega)⟩
        obtain ⟨ht1, ht2, c2, ht3, ht4, ht5⟩ := stop_run (c := c1) (by omega) H2.out
        have HU2 := Kept.mk ht2
        have HU3 := Kept.mk ht3
        have HU4 := Kept.mk ht4
        have HU5 := Kept.mk ht5
        have HB1 := Kept.mk (alike_stop c1)
        clear ht2 ht3 ht4 ht5
        go_wp2_with fail
        refine (state_c c1 0 _ L HT4.out.ch).mono ?_
        rintro e w' ⟨rfl, rfl⟩
        rw [HST2.out]
        go_wp2_with fail
        refine (stop_c c1 _ L HT4.out.ch).mono ?_
        rintro e w5 ⟨v, rfl, ho, hc, hO⟩
        obtain ⟨A3, k3, rfl⟩ := own_slice ho
        have HT5 := Kept.mk (HT4.out.turn HB1.out hc hO)
        have HN5 : Kept (runP (4 * (stopP c1).1.n) (stopP c1).1 (stopP c1).2.1 = (c2, [], true)) := ⟨by rw [HB1.out.n]; exact HU3.out⟩
        have HLW5 := Kept.mk (pw_lw HT5.out HN5.out ht1 ho)
        have HA5 := Kept.mk (Alike.of HB1.out HU4.out)
        rw [HU2.out]
        clear ho hc hO cP cQ lP lQ
        have cP := HT5.out.bp.cell 0 (v := .slice (some ad) l.length kap) rfl
        have cQ := HT5.out.bq.cell 0 (v := .pointer (some ⟨L.p, 0, none⟩)) rfl
        have lP := HT5.out.bp.lt
        have lQ := HT5.out.bq.lt
        generalize stopP c1 = q2 at *
        go_wp2_with fail
        refine (run_c q2.1 c2 q2.2.1 _ _ L P Q _ l.length kap (by omega) HLW5.out).mono ?_
        rintro e w6 ⟨rfl, hc6, hO6⟩
        have HT6 := Kept.mk (HT5.out.turn HA5.out hc6 hO6)
        clear hc6 hO6 cP cQ lP lQ
        have cP := HT6.out.bp.cell 0 (v := .slice (some ad) l.length kap) rfl
        have cQ := HT6.out.bq.cell 0 (v := .pointer (some ⟨L.p, 0, none⟩)) rfl
        have lP := HT6.out.bp.lt
        have lQ := HT6.out.bq.lt
        have HS6 : Kept (∀ i, i < l.length → stateP c2 i = 5 ∧ leftP c2 i = l.getD i 0) := ⟨fun i hi => by
          have h5 := HU5.out i (by omega)
          have hn2 : c2.n = l.length := HT6.out.n
          exact ⟨by rw [state_at (by omega), h5], by rw [left_all (by omega) (.inr h5)]; unfold Ch.room; rw [HT6.out.rooms]⟩⟩
        have HSE : Kept (startP c2 = (c2, [], 6)) := ⟨by unfold startP; rw [if_neg (by rw [HU5.out 0 (by omega)]; decide)]⟩
        go_wp2_with fail
        go_loopw [110] (fun v110 wr => ∃ i : Nat, i ≤ l.length ∧ v110 = .int .i64 i ∧ Kept (Drewn w6 wr)) (fun v110 _ => l.length - (intOf v110).toNat)
        case atStart => exact ⟨0, by omega, rfl, ⟨⟨0, rfl⟩⟩⟩
        case round =>
          obtain ⟨i, hi, rfl, HD⟩ := hrel
          have HTD := Kept.mk (HD.out.pw HT6.out)
          clear cP cQ lP lQ
          have cP := HTD.out.bp.cell 0 (v := .slice (some ad) l.length kap) rfl
          have cQ := HTD.out.bq.cell 0 (v := .pointer (some ⟨L.p, 0, none⟩)) rfl
          have lP := HTD.out.bp.lt
          have lQ := HTD.out.bq.lt
          by_cases hil : i < l.length
          · have hcl := pw_cells HTD.out i hil
            have HLI := Kept.mk (HS6.out i hil)
            generalize l.getD i 0 = r at *
            go_wp2_with fail
            go_quiet ((first | (go_at_call 13; exact Calls.quiet_of_same ((state_c c2 i _ L (HTD.out.ch.drewN _)).mono fun _ _ h => ⟨h.1.trans (by rw [HLI.out.1]), h.2.symm⟩)) | (go_at_call 14; exact Calls.quiet_of ((left_c c2 i _ L (HTD.out.ch.drewN _)).mono fun _ _ h => ⟨h.1.trans (by rw [HLI.out.2]), h.2⟩))))
            go_wp2_with fail
            go_roundw
            case rel => exact ⟨i + 1, by omega, by go_num, ⟨HD.out.step _⟩⟩
            case measure => simp [intOf]; omega
          · obtain rfl : i = l.length := by omega
            go_wp2_with fail
            refine (start_c c2 _ L HTD.out.ch).mono ?_
            rw [HSE.out]
            rintro e w7 ⟨v, rfl, ho, hc, hO⟩
            obtain ⟨A7, k7, rfl⟩ := own_slice ho
            have HL7 := Kept.mk (HTD.out.turn (Alike.refl _) hc hO).below
            clear ho hc hO
            go_wp2_with fail
            go_ret
            exact ⟨rfl, HL7.out⟩
      · have hq : decide (need ≤ mn) = false := by simpa using hall
        have hall2 : mn < need := by omega
        have H3 : Kept (c1.st 0 = 3) := ⟨HS3.out.none_ (by
          obtain ⟨i, hi, e⟩ := HMN.out.2
          exact ⟨i, by omega, by rw [HRO.out, HND.out]; omega⟩)⟩
        have HST3 : Kept (stateP c1 0 = 3) := ⟨by rw [HST.out]; exact H3.out⟩
        have HLF3 : Kept (leftP c1 0 = r0) := ⟨by
          have := left_all (c := c1) (i := 0) (by omega) (.inl H3.out)
          rw [show leftP c1 0 = c1.room 0 from this]
          unfold Ch.room
          rw [HT4.out.rooms]; exact HR0.out⟩
        have HSP : Kept (stopP c1 = (c1, [], 6)) := ⟨by unfold stopP; rw [if_neg (by rw [H3.out]; decide)]⟩
        go_wp2_with fail
        refine (state_c c1 0 _ L HT4.out.ch).mono ?_
        rintro e w' ⟨rfl, rfl⟩
        rw [HST3.out]
        go_wp2_with fail
        refine (stop_c c1 _ L HT4.out.ch).mono ?_
        rw [HSP.out]
        rintro e w5 ⟨v, rfl, ho, hc, hO⟩
        obtain ⟨A3, k3, rfl⟩ := own_slice ho
        have HT5 := Kept.mk (HT4.out.turn (Alike.refl _) hc hO)
        clear ho hc hO cP cQ lP lQ
        have cP := HT5.out.bp.cell 0 (v := .slice (some ad) l.length kap) rfl
        have cQ := HT5.out.bq.cell 0 (v := .pointer (some ⟨L.p, 0, none⟩)) rfl
        have lP := HT5.out.bp.lt
        have lQ := HT5.out.bq.lt
        have cl0 := pw_cells HT5.out 0 (by omega)
        have cl00 := cl0
        rw [show ad.add 0 = ad by simp [Addr.add]] at cl00
        rw [HR0.out] at cl0 cl00
        go_wp2_with fail
        go_quiet ((first | (go_at_call 13; exact Calls.quiet_of_same ((state_c c1 0 _ L (HT5.out.ch.drewN _)).mono fun _ _ h => ⟨h.1.trans (by rw [HST3.out]), h.2.symm⟩)) | (go_at_call 14; exact Calls.quiet_of ((left_c c1 0 _ L (HT5.out.ch.drewN _)).mono fun _ _ h => ⟨h.1.trans (by rw [HLF3.out]), h.2⟩))))
        go_wp2_with fail
        go_ret
        exact ⟨rfl, dN HT5.out.below _⟩

set_option maxRecDepth 100000 in
theorem liftedSetupPlain (os : Os) (started : os.Started) (H : Type) (enc : TypeId × Value → H) :
    ReturnsInHanded {} Try.checked os 4 .any (Rows.setupPlainSpec.pre6 enc Try.prog Try.f4 Rows.setupPlainRow.domain false) (Rows.setupPlainSpec.post enc Try.prog Try.f4 false true false false) := by
  refine returnsInHanded_of_change (C := Try.checked) own started (by kernel_rfl) Try.func4
    (ChangeSpec.witness6 (enc := enc) (C := Try.checked) false ⟨#[], #[.slice none 0 0, .int .u8 0], []⟩ 8 (by kernel_rfl) (by kernel_rfl) (by kernel_rfl) (by kernel_rfl)) ?_
  intro W base args ds gs before hval0 hW hcnd _
  have hval : ∀ (j : Nat) t v, Try.f4.params[j]? = some t → args[j]? = some v → Value.okWide Try.prog W .any base t v := hval0
  have hW' := hW
  obtain ⟨p, q, hA0, hV, rfl, hfz, hnd⟩ := hW
  have hA : DataW.TrodAll enc Try.prog W 0 (fun _ => true) true Try.f4.params.toList args.toList ds p := hA0
  rw [Try.params4] at hA hval
  obtain ⟨v0, vs0, d0, ds0, p0, q0, hargs, rfl, rfl, h0, r0⟩ := trodAll_cons hA
  obtain ⟨v1, vs1, d1, ds1, p1, q1, rfl, rfl, rfl, h1, r1⟩ := trodAll_cons r0
  obtain ⟨rfl, rfl, rfl⟩ := trodAll_nil r1
  obtain rfl : args = #[v0, v1] := by cases args; simp_all
  obtain ⟨rfl, rfl⟩ := trodVars_none hV
  have k0 := h0
  have lt0 : ∀ x ∈ p0, x.block < W.heap.size := by obtain ⟨m, hm⟩ := k0; exact DataW.trod_lt m _ _ _ hm
  have k1 := h1
  have lt1 : ∀ x ∈ p1, x.block < W.heap.size := by obtain ⟨m, hm⟩ := k1; exact DataW.trod_lt m _ _ _ hm
  obtain ⟨a0, len0, cap0, rfl⟩ := okWide_slice Try.underlying32 (hval 0 32 v0 rfl rfl)
  have w0 : IsRows W 1 IsByte a0 len0 cap0 := open_rows Try.underlying32 (show Try.prog.cellsOf 5 = 1 by kernel_rfl) (by decide) isByte h0
  obtain ⟨a1, rfl, -, -, w1⟩ := open_int Try.underlying5 (hval 1 5 v1 rfl rfl) h1
  clear hA0 hval0
  refine (walkSetupPlain a0 len0 cap0 a1 W w0 w1).mono fun e W' ⟨he, bel⟩ => ?_
  subst he
  exact ⟨_, rfl, _, _, _, [], _, [], hW', trodAll_mk1 (shut_bool Try.underlying4 _), (trodAll_cons_mk (Below.trod laidOut (by kernel_rfl) (of_decide_eq_true (by kernel_rfl)) k0 bel lt0) (trodAll_cons_mk (Below.trod laidOut (by kernel_rfl) (of_decide_eq_true (by kernel_rfl)) k1 bel lt1) trodAll_mk0)), rfl, bel.frame _, fun h => by cases h⟩
/-- The given statement. -/
theorem setupPlain_holds : Rows.SetupPlainSaid :=
  OpenClaim.holds_of_wide 4 Try.f4 rfl rfl rfl rfl rfl rfl rfl ⟨rfl, rfl, rfl, rfl, rfl⟩ rfl rfl rfl rfl rfl (by kernel_rfl) Try.func4 (by kernel_rfl)
    (of_decide_eq_true (by kernel_rfl)) (by unfold Func.isWrapper; first | (rw [if_pos (by decide +kernel)]; kernel_rfl) | (rw [if_neg (by decide +kernel)]; exact ⟨rfl, rfl⟩))
    (fun os started H enc _ => liftedSetupPlain os started H enc)
#print axioms setupPlain_holds
end Go.Proofs.Ytnmgnggchgckoaa
