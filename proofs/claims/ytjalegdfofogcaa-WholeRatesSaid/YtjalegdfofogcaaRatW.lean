/- The walk of WholeRates. -/
import Derived.Test.YtjalegdfofogcaaLawD
import Derived.Test.YtjalegdfofogcaaScaA
namespace Go.Proofs.Ytjalegdfofogcaa
set_option linter.unusedVariables false
set_option linter.unusedSimpArgs false
open Go.RowKit
/-- The boxes of the parameters. -/
structure WA (w W : World) (n : PNet) (rate : Rq) : Prop where
  x : Blk W w.heap.size 25 #[.slice n.cA n.caps.length n.ck, .slice n.fA n.flows.length n.fk]
  y : Blk W (w.heap.size + 1) 32 #[.int .i64 rate.n, .int .i64 rate.d]
  blw : Below w.heap.size w W
/-- .. and the rates. -/
structure WR (w W : World) (n : PNet) (rate : Rq) (gq : Nat) (rs : List Rq) : Prop where
  wa : WA w W n rate
  rr : RowBlk W gq 32 ccell rs
  lo : w.heap.size + 1 < gq
/-- .. and the state of the exchange. -/
structure WS (w W : World) (n : PNet) (rate : Rq) (gq : Nat) (rs : List Rq) (b15 b0 : Nat) (t : PSt) : Prop where
  wr : WR w W n rate gq rs
  b : Blk W b15 54 #[.slice t.sA n.caps.length t.sk, .slice t.oA n.caps.length t.ok]
  ow : XOw W b0 n.caps.length t
  lo : gq < b0
section
variable {w W W' : World} {n : PNet} {rate : Rq} {gq b15 b0 : Nat} {rs : List Rq} {t : PSt}
theorem WA.new_ (h : WA w W n rate) (hb : Below W.heap.size W W') : WA w W' n rate := ⟨h.x.new_ hb, h.y.new_ hb, join h.blw hb⟩
theorem WR.new_ (h : WR w W n rate gq rs) (hb : Below W.heap.size W W') : WR w W' n rate gq rs := ⟨h.wa.new_ hb, h.rr.new_ hb, h.lo⟩
theorem WS.new_ (h : WS w W n rate gq rs b15 b0 t) (hb : Below W.heap.size W W') : WS w W' n rate gq rs b15 b0 t := ⟨h.wr.new_ hb, h.b.new_ hb, h.ow.new_ hb, h.lo⟩
theorem WR.rows (h : WR w W n rate gq rs) : RowsAt W W.heap.size 2 ccell (some ⟨gq, 0, none⟩) rs := RowBlk.rows h.rr ccell_len (by omega) h.rr.lt
theorem WA.start (w : World) (n : PNet) (rate : Rq) : WA w ((w.alloc (.cells #[.slice n.cA n.caps.length n.ck, .slice n.fA n.flows.length n.fk] 25)).alloc (.cells #[.int .i64 rate.n, .int .i64 rate.d] 32)) n rate := by
  have h1 := Blk.new (w.alloc (.cells #[.slice n.cA n.caps.length n.ck, .slice n.fA n.flows.length n.fk] 25)) 32 #[.int .i64 rate.n, .int .i64 rate.d]
  rw [World.size_alloc] at h1
  exact ⟨(Blk.new _ _ _).alloc _, h1, by go_grown⟩
/-- A share is set. -/
theorem WS.put {sh : List Rq} {op : List Bool} {g g' sk ok k : Nat} (h : WS w W n rate gq rs b15 b0 ⟨sh, some ⟨g, 0, none⟩, sk, op, some ⟨g', 0, none⟩, ok⟩) (hk : k < n.caps.length) {V : Rq} (hV : okQ V = true) (hV0 : 0 ≤ V.n) :
    WS w (((W.setCell ⟨g, k * 2, none⟩ (.int .i64 V.n)).setCell ⟨g, k * 2 + 1, none⟩ (.int .i64 V.d)).setCell ⟨g', k, none⟩ (.bool false)) n rate gq rs b15 b0 ⟨sh.set k V, some ⟨g, 0, none⟩, sk, op.set k false, some ⟨g', 0, none⟩, ok⟩ := by
  have hl := h.lo
  have hl2 := h.wr.lo
  have hso := h.ow.so
  have hoo := h.ow.oo
  have hls := h.ow.num.ls
  have hlo := h.ow.num.lo
  dsimp only at hso hoo hls hlo
  have hg := (hso.lt g rfl).1
  have hg' := (hoo.lt g' rfl).1
  have hgg : g ≠ g' := fun e => own_own_ne hso hoo (by decide) g rfl (by rw [e]; rfl)
  have hgb : g ≠ b15 := fun e => own_blk_ne hso h.b (by decide) (by rw [← e]; rfl)
  have hgb' : g' ≠ b15 := fun e => own_blk_ne hoo h.b (by decide) (by rw [← e]; rfl)
  have far : ∀ {q : Nat} {ty : TypeId} {cs : Array Value}, Blk W q ty cs → q ≠ g → q ≠ g' → Blk (((W.setCell ⟨g, k * 2, none⟩ (.int .i64 V.n)).setCell ⟨g, k * 2 + 1, none⟩ (.int .i64 V.d)).setCell ⟨g', k, none⟩ (.bool false)) q ty cs := fun hq h1 h2 => ((hq.far (by simpa using h1) _).far (by simpa using h1) _).far (by simpa using h2) _
  refine ⟨⟨⟨far h.wr.wa.x (by omega) (by omega), far h.wr.wa.y (by omega) (by omega), ((h.wr.wa.blw.setCell (by simp only; omega) _).setCell (by simp only; omega) _).setCell (by simp only; omega) _⟩, far h.wr.rr (by omega) (by omega), hl2⟩, far h.b (fun e => hgb e.symm) (fun e => hgb' e.symm), ⟨?_, ?_, ⟨by rw [List.length_set]; exact hls, by rw [List.length_set]; exact hlo, h.ow.num.ok.set k hV, fun r hr => ?_⟩⟩, hl⟩
  · dsimp only
    rw [List.length_set]
    exact own_far (own_put2 hso ccell_len (by omega) rfl) (fun e => by injection e with e; exact hgg e) _
  · dsimp only
    rw [List.length_set]
    exact own_put1 (own_far (own_far hoo (fun e => by injection e with e; exact hgg e.symm) _) (fun e => by injection e with e; exact hgg e.symm) _) boolc_len (by omega) rfl
  · rcases List.mem_or_eq_of_mem_set hr with h1 | h1
    · exact h.ow.num.nn r h1
    · rw [h1]; exact hV0
theorem ws_keep (h : WS w W n rate gq rs b15 b0 t) : W.cell? ⟨w.heap.size, 0, none⟩ = some (.slice n.cA n.caps.length n.ck) ∧ W.cell? ⟨w.heap.size, 1, none⟩ = some (.slice n.fA n.flows.length n.fk) ∧ W.cell? ⟨b15, 0, none⟩ = some (.slice t.sA n.caps.length t.sk) ∧ W.cell? ⟨b15, 1, none⟩ = some (.slice t.oA n.caps.length t.ok) := ⟨h.wr.wa.x.cell 0 rfl, h.wr.wa.x.cell 1 rfl, h.b.cell 0 rfl, h.b.cell 1 rfl⟩
theorem wr_keep {k : Nat} {x : Rq} (h : WR w W n rate gq rs) (hx : rs[k]? = some x) : W.cell? ⟨w.heap.size, 0, none⟩ = some (.slice n.cA n.caps.length n.ck) ∧ W.cell? ⟨w.heap.size, 1, none⟩ = some (.slice n.fA n.flows.length n.fk) ∧ W.cell? ⟨w.heap.size + 1, 0, none⟩ = some (.int .i64 rate.n) ∧ W.cell? ⟨w.heap.size + 1, 1, none⟩ = some (.int .i64 rate.d) ∧ W.cell? ⟨gq, k * 2, none⟩ = some (.int .i64 x.n) ∧ W.cell? ⟨gq, k * 2 + 1, none⟩ = some (.int .i64 x.d) := ⟨h.wa.x.cell 0 rfl, h.wa.x.cell 1 rfl, h.wa.y.cell 0 rfl, h.wa.y.cell 1 rfl, h.rr.cell ccell_len hx (j := 0) rfl, h.rr.cell ccell_len hx (j := 1) rfl⟩
theorem al_step (X : World) (ty : TypeId) (cs : Array Value) : ∃ X' b, X' = X.alloc (.cells cs ty) ∧ b = X.heap.size ∧ Below X.heap.size X X' ∧ Blk X' b ty cs := ⟨_, _, rfl, rfl, (Below.refl _ _).alloc (Nat.le_refl _) _, Blk.new _ _ _⟩
theorem shO_pos {nl : Nat} (h : StNum nl t) : ∀ l, l < nl → ∀ v, shO t l = some v → 0 ≤ v := fun l _ v hv => by
  obtain ⟨_, h2⟩ := shO_some.1 hv
  rw [h2]
  exact (val_n (h.ok.getD l)).1 (h.nn' l)
end
theorem size9 {b : Nat} {w W : World} (h : b < w.heap.size) (hb : Below w.heap.size w W) : b < W.heap.size := Nat.lt_of_lt_of_le h hb.size
set_option maxRecDepth 100000 in
set_option maxHeartbeats 32000000 in
theorem walkWholeRates (n : PNet) (shl : List Rq) (shA : Option Addr) (shk : Nat) (opl : List Bool) (opA : Option Addr) (opk : Nat) (y : Int) (rate : Rq) (w : World) (hn : NetAt w w.heap.size n) (hsh : RowsAt w w.heap.size 2 ccell shA shl ∧ ∀ r ∈ shl, R64 r.n ∧ R64 r.d) (hop : RowsAt w w.heap.size 1 boolc opA opl) (hy : 0 ≤ y ∧ y ≤ 255) (hrt : R64 rate.n ∧ R64 rate.d) :
    Calls Try.prog 4 #[nval n, .slice shA shl.length shk, .slice opA opl.length opk, .int .u8 y, rqv rate] w fun e w' => e = .returned (.bool true) ∧ Below w.heap.size w w' := by
  have HN := Kept.mk hn
  have HSH := Kept.mk hsh.1
  have HS6 := Kept.mk hsh.2
  have HOP := Kept.mk hop
  have HRT := Kept.mk hrt
  obtain ⟨y1, y2⟩ := hy
  have MO := fun w h => modest_c n w h
  clear hn hsh hop hrt
  obtain ⟨caps, cA, ck, flows, fA, fk⟩ := n
  unfold nval rqv
  unfold nval at MO
  dsimp only at MO ⊢
  obtain ⟨ns, hns⟩ : ∃ q, q = shl.length := ⟨_, rfl⟩
  obtain ⟨no, hno⟩ : ∃ q, q = opl.length := ⟨_, rfl⟩
  rw [← hns, ← hno]
  have HNS := Kept.mk (And.intro hns hno)
  clear hns hno
  have HA0 := Kept.mk (WA.start w ⟨caps, cA, ck, flows, fA, fk⟩ rate)
  dsimp only at HA0
  obtain ⟨U0, hU0⟩ : ∃ U, U = (w.alloc (.cells #[.slice cA caps.length ck, .slice fA flows.length fk] 25)).alloc (.cells #[.int .i64 rate.n, .int .i64 rate.d] 32) := ⟨_, rfl⟩
  rw [← hU0] at HA0
  have n0 := HA0.out.x.cell 0 (v := .slice cA caps.length ck) rfl
  have n1 := HA0.out.x.cell 1 (v := .slice fA flows.length fk) rfl
  have nl := HA0.out.x.lt
  cases hmb : modB ⟨caps, cA, ck, flows, fA, fk⟩ with
  | false =>
    have HMB := Kept.mk hmb
    clear hmb
    go_enter Try.func4, Try.ntmps4
    go_upto_region 1 with fail
    rw [← hU0]
    clear hU0
    go_wp2_with (first | (go_at_call 5; refine (awake_c _).mono ?_; rintro e wa ⟨rfl, hba⟩; have HA1 := Kept.mk (HA0.out.new_ hba); clear hba; clear n0 n1 nl; have n0 := HA1.out.x.cell 0 (v := .slice cA caps.length ck) rfl; have n1 := HA1.out.x.cell 1 (v := .slice fA flows.length fk) rfl; have nl := HA1.out.x.lt) | (go_at_call 6; refine (MO _ (HN.out.new_ HA1.out.blw)).mono ?_; rintro e wm ⟨rfl, hbm⟩; rw [HMB.out]; have HA2 := Kept.mk (HA1.out.new_ hbm); clear hbm; clear n0 n1 nl; have n0 := HA2.out.x.cell 0 (v := .slice cA caps.length ck) rfl; have n1 := HA2.out.x.cell 1 (v := .slice fA flows.length fk) rfl; have nl := HA2.out.x.lt))
    go_ret
    exact ⟨rfl, HA2.out.blw⟩
  | true =>
    have HMB := Kept.mk hmb
    have HOK := Kept.mk (mod_net hmb)
    have hvn := (mod_ok hmb).1
    have HVN := Kept.mk hvn
    have RT := fun w h => rates_c ⟨caps, cA, ck, flows, fA, fk⟩ w h (mod_ok hmb).1 (mod_net hmb)
    have hc4 : caps.length ≤ 4 := (mod_ok hmb).2.1
    have hf5 : flows.length ≤ 5 := (mod_ok hmb).2.2.1
    unfold nval at RT
    dsimp only at RT
    clear hmb hvn
    go_enter Try.func4, Try.ntmps4
    go_upto_region 1 with fail
    rw [← hU0]
    clear hU0
    go_upto_region 6 with (first | (go_at_call 5; refine (awake_c _).mono ?_; rintro e wa ⟨rfl, hba⟩; have HA1 := Kept.mk (HA0.out.new_ hba); clear hba; clear n0 n1 nl; have n0 := HA1.out.x.cell 0 (v := .slice cA caps.length ck) rfl; have n1 := HA1.out.x.cell 1 (v := .slice fA flows.length fk) rfl; have nl := HA1.out.x.lt) | (go_at_call 6; refine (MO _ (HN.out.new_ HA1.out.blw)).mono ?_; rintro e wm ⟨rfl, hbm⟩; rw [HMB.out]; have HA2 := Kept.mk (HA1.out.new_ hbm); clear hbm; clear n0 n1 nl; have n0 := HA2.out.x.cell 0 (v := .slice cA caps.length ck) rfl; have n1 := HA2.out.x.cell 1 (v := .slice fA flows.length fk) rfl; have nl := HA2.out.x.lt) | (go_at_call 7; refine (RT _ (HN.out.new_ HA2.out.blw)).mono ?_; rintro e wt ⟨m, gq, rfl, hfin, hrr, hgq, hbt⟩; have HFI := Kept.mk (filled HVN.out HOK.out hfin); have HR3 : Kept (WR w wt ⟨caps, cA, ck, flows, fA, fk⟩ rate gq (itr ⟨caps, cA, ck, flows, fA, fk⟩ m).1) := ⟨HA2.out.new_ hbt, hrr, by have := HA2.out.y.lt; omega⟩; clear hbt hfin hrr hgq; clear n0 n1 nl; have n0 := HR3.out.wa.x.cell 0 (v := .slice cA caps.length ck) rfl; have n1 := HR3.out.wa.x.cell 1 (v := .slice fA flows.length fk) rfl; have nl := HR3.out.wa.x.lt))
    obtain ⟨rs, hrs⟩ : ∃ rs, rs = (itr ⟨caps, cA, ck, flows, fA, fk⟩ m).1 := ⟨_, rfl⟩
    rw [← hrs] at HFI HR3
    clear hrs RT MO HA0 HA1 HA2
    have hrl := HFI.out.len
    have hro := HFI.out.ok
    have HMK := Kept.mk HFI.out.make
    have HFE := Kept.mk (make_feas HFI.out.make)
    have FC := fun w h1 h2 => feas_c ⟨caps, cA, ck, flows, fA, fk⟩ rs (some ⟨gq, 0, none⟩) flows.length w h1 HVN.out h2 hrl hro
    have FA := fun w h1 h2 => fair_c ⟨caps, cA, ck, flows, fA, fk⟩ rs (some ⟨gq, 0, none⟩) flows.length w h1 HVN.out h2 hrl hro
    have MC := fun w h1 h2 => make_c ⟨caps, cA, ck, flows, fA, fk⟩ rs (some ⟨gq, 0, none⟩) flows.length w h1 HVN.out h2 hrl hro
    have CK := fun qA qk w h1 h2 h3 => check_c ⟨caps, cA, ck, flows, fA, fk⟩ rs (some ⟨gq, 0, none⟩) qA flows.length qk w h1 HVN.out h2 hrl hro HMK.out h3
    have SC := fun w h1 => xstart_c ⟨caps, cA, ck, flows, fA, fk⟩ w h1 HVN.out
    unfold nval at FC FA MC CK SC
    dsimp only at FC FA MC CK SC
    have HRL := Kept.mk hrl
    clear hrl hro
    go_upto_region 8 with (first | (go_at_call 17; refine (FC _ (HN.out.new_ HR3.out.wa.blw) HR3.out.rows).mono ?_; rintro e w4 ⟨rfl, hb4⟩; rw [HFE.out]; have HR4 := Kept.mk (HR3.out.new_ hb4); clear hb4; clear n0 n1 nl; have n0 := HR4.out.wa.x.cell 0 (v := .slice cA caps.length ck) rfl; have n1 := HR4.out.wa.x.cell 1 (v := .slice fA flows.length fk) rfl; have nl := HR4.out.wa.x.lt) | (go_at_call 18; refine (FA _ (HN.out.new_ HR4.out.wa.blw) HR4.out.rows).mono ?_; rintro e w5 ⟨rfl, hb5⟩; rw [HMK.out]; have HR5 := Kept.mk (HR4.out.new_ hb5); clear hb5; clear n0 n1 nl; have n0 := HR5.out.wa.x.cell 0 (v := .slice cA caps.length ck) rfl; have n1 := HR5.out.wa.x.cell 1 (v := .slice fA flows.length fk) rfl; have nl := HR5.out.wa.x.lt))
    clear FC FA HR3 HR4
    go_upto_region 9 with (go_at_call 19; refine (MC _ (HN.out.new_ HR5.out.wa.blw) HR5.out.rows).mono ?_; intro e w6 hm; rcases hm with ⟨-, qA, qk, rfl, hqr, hb6⟩ | ⟨habs, -⟩; rotate_left; exact absurd HMK.out (by rw [habs]; decide); have HR6 := Kept.mk (HR5.out.new_ hb6); have HQR := Kept.mk hqr; clear hb6 hqr; clear n0 n1 nl; have n0 := HR6.out.wa.x.cell 0 (v := .slice cA caps.length ck) rfl; have n1 := HR6.out.wa.x.cell 1 (v := .slice fA flows.length fk) rfl; have nl := HR6.out.wa.x.lt)
    clear MC HR5
    go_upto_region 11 with (go_at_call 20; refine (CK qA qk _ (HN.out.new_ HR6.out.wa.blw) HR6.out.rows HQR.out).mono ?_; rintro e w7 ⟨rfl, hb7⟩; have HR7 := Kept.mk (HR6.out.new_ hb7); clear hb7; clear n0 n1 nl; have n0 := HR7.out.wa.x.cell 0 (v := .slice cA caps.length ck) rfl; have n1 := HR7.out.wa.x.cell 1 (v := .slice fA flows.length fk) rfl; have nl := HR7.out.wa.x.lt)
    clear CK HR6 HQR
    go_upto_region 12 with (go_at_call 21; refine (SC _ (HN.out.new_ HR7.out.wa.blw)).mono ?_; intro e w8 hst; obtain ⟨A, ka, A', kb, rfl, how, hb8⟩ := hst; have HR8 := Kept.mk (HR7.out.new_ hb8); have HOW := Kept.mk how; have HG7 := Kept.mk HR7.out.rr.lt; clear hb8 how; clear n0 n1 nl)
    obtain ⟨b15, hb15⟩ : ∃ b, b = w8.heap.size := ⟨_, rfl⟩
    obtain ⟨b0, hb0⟩ : ∃ b, b = w7.heap.size := ⟨_, rfl⟩
    obtain ⟨V, hV, HV⟩ : ∃ V, V = w8.alloc (.cells #[.slice A caps.length ka, .slice A' caps.length kb] 54) ∧ Kept (WS w V ⟨caps, cA, ck, flows, fA, fk⟩ rate gq rs b15 b0 (startS caps.length A ka A' kb)) := ⟨_, rfl, ⟨⟨HR8.out.new_ ((Below.refl _ _).alloc (Nat.le_refl _) _), by rw [hb15]; exact Blk.new _ _ _, by rw [hb0]; exact HOW.out.new_ ((Below.refl _ _).alloc (Nat.le_refl _) _), by rw [hb0]; exact HG7.out⟩⟩⟩
    rw [← hV, ← hb15]
    clear hV hb15 hb0 HR7 HR8 HOW HG7 SC
    obtain ⟨sh0, hsh0⟩ : ∃ x, x = List.replicate caps.length (⟨0, 1⟩ : Rq) := ⟨_, rfl⟩
    obtain ⟨op0, hop0⟩ : ∃ x, x = List.replicate caps.length true := ⟨_, rfl⟩
    unfold startS at HV
    rw [← hsh0, ← hop0] at HV
    clear hsh0 hop0
    have t1 := HV.out.b.cell 1 (v := .slice A' caps.length kb) rfl
    have tl := HV.out.b.lt
    go_wp2_with fail
    go_loopw [69] (fun v wr => ∃ (k : Nat) (sh1 : List Rq) (op1 : List Bool), k ≤ caps.length ∧ v = .int .i64 k ∧ Kept (WS w wr ⟨caps, cA, ck, flows, fA, fk⟩ rate gq rs b15 b0 ⟨sh1, A, ka, op1, A', kb⟩)) (fun v _ => caps.length - (intOf v).toNat)
    case atStart => exact ⟨0, sh0, op0, Nat.zero_le _, rfl, HV⟩
    case round =>
      clear HV t1 tl
      obtain ⟨k, sh1, op1, hk, rfl, HX⟩ := hrel
      by_cases hlt : k < caps.length
      · by_cases h1 : k < ns
        · have e1 : decide ((k : Int) < (ns : Int)) = true := decide_eq_true (by omega)
          have e1' : decide (k < ns) = true := decide_eq_true h1
          by_cases h2 : k < no
          · have e2 : decide ((k : Int) < (no : Int)) = true := decide_eq_true (by omega)
            have e2' : decide (k < no) = true := decide_eq_true h2
            obtain ⟨x, bA, oA, hx, rfl, -, hbA, -⟩ := HSH.out.at_ (show k < shl.length by rw [← HNS.out.1]; exact h1)
            obtain ⟨u, bO, oO, hu, rfl, -, hbO, -⟩ := HOP.out.at_ (show k < opl.length by rw [← HNS.out.2]; exact h2)
            have HXK := Kept.mk hx
            have HUK := Kept.mk hu
            have hx6 := HS6.out x (List.mem_of_getElem? hx)
            have V1 := fun w => valid_c x w hx6.1.1 hx6.1.2 hx6.2.1 hx6.2.2
            unfold rqv at V1
            obtain ⟨c0, c1, -⟩ := (HSH.out.new_ HX.out.wr.wa.blw).rat HXK.out
            obtain ⟨d0, -⟩ := (HOP.out.new_ HX.out.wr.wa.blw).bat HUK.out
            have hbAw := size9 hbA HX.out.wr.wa.blw
            have hbOw := size9 hbO HX.out.wr.wa.blw
            have HSB := Kept.mk (And.intro hbA hbO)
            clear hx hu hx6 hbA hbO
            cases u with
            | true =>
              go_wp2_with fail
              go_roundw
              case rel => exact ⟨k + 1, sh1, op1, by omega, by go_num, HX⟩
              case measure => simp [intOf]; omega
            | false =>
              cases hxo : okQ x with
              | false =>
                have HXO := Kept.mk hxo
                clear hxo
                go_wp2_with (go_at_call 22; refine (V1 _).mono ?_; rintro e w9 ⟨rfl, hb9⟩; rw [HXO.out]; have HX9 := Kept.mk (HX.out.new_ hb9); clear hb9 c0 c1 d0 hbAw hbOw; obtain ⟨c0, c1, -⟩ := (HSH.out.new_ HX9.out.wr.wa.blw).rat HXK.out; have hbAw := size9 HSB.out.1 HX9.out.wr.wa.blw)
                go_roundw
                case rel => exact ⟨k + 1, sh1, op1, by omega, by go_num, HX9⟩
                case measure => simp [intOf]; omega
              | true =>
                have HXO := Kept.mk hxo
                clear hxo
                by_cases h5 : 0 ≤ x.n
                · have e5 : decide (0 ≤ x.n) = true := decide_eq_true h5
                  by_cases h6 : x.n ≤ 12
                  · have e6 : decide (x.n ≤ 12) = true := decide_eq_true h6
                    by_cases h7 : x.d ≤ 4
                    · have e7 : decide (x.d ≤ 4) = true := decide_eq_true h7
                      have hso := HX.out.ow.so
                      have hoo := HX.out.ow.oo
                      dsimp only at hso hoo
                      have hls1 : sh1.length = caps.length := HX.out.ow.num.ls
                      have hlo1 : op1.length = caps.length := HX.out.ow.num.lo
                      rw [hls1] at hso
                      rw [hlo1] at hoo
                      obtain ⟨g, cap1, hv1, hg1, hg2, -⟩ := own_spot hso (by omega)
                      obtain ⟨g', cap2, hv2, hg1', hg2', -⟩ := own_spot hoo (by omega)
                      injection hv1 with q1 _ q2
                      injection hv2 with q3 _ q4
                      subst q1 q2 q3 q4
                      have HG := Kept.mk (And.intro hg1 hg1')
                      clear hso hoo hg1 hg1' hg2 hg2'
                      go_upto_region 16 with (go_at_call 22; refine (V1 _).mono ?_; rintro e w9 ⟨rfl, hb9⟩; rw [HXO.out]; have HX9 := Kept.mk (HX.out.new_ hb9); clear hb9 c0 c1 d0 hbAw hbOw; obtain ⟨c0, c1, -⟩ := (HSH.out.new_ HX9.out.wr.wa.blw).rat HXK.out; have hbAw := size9 HSB.out.1 HX9.out.wr.wa.blw)
                      have hso := HX9.out.ow.so
                      have hoo := HX9.out.ow.oo
                      dsimp only at hso hoo
                      rw [hls1] at hso
                      rw [hlo1] at hoo
                      obtain ⟨r, hr⟩ := get_some (show k < sh1.length by rw [hls1]; exact hlt)
                      obtain ⟨u, hu⟩ := get_some (show k < op1.length by rw [hlo1]; exact hlt)
                      obtain ⟨r0, r1, -⟩ := HX9.out.ow.at.rs.rat hr
                      obtain ⟨p0, -⟩ := HX9.out.ow.at.ro.bat hu
                      simp only [Nat.zero_add] at r0 r1 p0
                      have f0 := hso.frozenAt (k * 2)
                      have f1 := hso.frozenAt (k * 2 + 1)
                      have f2 := hoo.frozenAt k
                      have hg2 := (hso.lt g rfl).2
                      have hg2' := (hoo.lt g' rfl).2
                      have t0 := HX9.out.b.cell 0 (v := .slice (some ⟨g, 0, none⟩) caps.length ka) rfl
                      have t1 := HX9.out.b.cell 1 (v := .slice (some ⟨g', 0, none⟩) caps.length kb) rfl
                      have tl := HX9.out.b.lt
                      have hgg : ¬ g = g' := fun e => own_own_ne hso hoo (by decide) g rfl (by rw [e]; rfl)
                      have hgg' : ¬ g' = g := fun e => hgg e.symm
                      have hgb1 : ¬ g = b15 := fun e => own_blk_ne hso HX9.out.b (by decide) (by rw [← e]; rfl)
                      have hgb2 : ¬ g' = b15 := fun e => own_blk_ne hoo HX9.out.b (by decide) (by rw [← e]; rfl)
                      have hgb3 : ¬ b15 = g := fun e => hgb1 e.symm
                      have hgb4 : ¬ b15 = g' := fun e => hgb2 e.symm
                      have hga1 : ¬ g = bA := by have := HSB.out.1; have := HG.out.1; have := HX9.out.lo; have := HX9.out.wr.lo; omega
                      have hga2 : ¬ g' = bA := by have := HSB.out.1; have := HG.out.2; have := HX9.out.lo; have := HX9.out.wr.lo; omega
                      have hga3 : ¬ bA = g := fun e => hga1 e.symm
                      have hga4 : ¬ bA = g' := fun e => hga2 e.symm
                      clear hso hoo hls1 hlo1 hr hu
                      go_region
                      obtain ⟨W8, hW8, HX8⟩ : ∃ W', W' = (((w9.setCell ⟨g, k * 2, none⟩ (.int .i64 x.n)).setCell ⟨g, k * 2 + 1, none⟩ (.int .i64 x.d)).setCell ⟨g', k, none⟩ (.bool false)).drew ∧ Kept (WS w W' ⟨caps, cA, ck, flows, fA, fk⟩ rate gq rs b15 b0 ⟨sh1.set k x, some ⟨g, 0, none⟩, ka, op1.set k false, some ⟨g', 0, none⟩, kb⟩) := ⟨_, rfl, ⟨(HX9.out.put hlt HXO.out h5).new_ (bdrew (Below.refl _ _))⟩⟩
                      rw [← hW8]
                      clear hW8 HX HX9 r0 r1 p0 f0 f1 f2 t0 t1 tl c0 c1
                      go_wp2_with fail
                      go_roundw
                      case rel => exact ⟨k + 1, sh1.set k x, op1.set k false, by omega, by go_num, HX8⟩
                      case measure => simp [intOf]; omega
                    · have e7 : decide (x.d ≤ 4) = false := decide_eq_false h7
                      go_wp2_with (go_at_call 22; refine (V1 _).mono ?_; rintro e w9 ⟨rfl, hb9⟩; rw [HXO.out]; have HX9 := Kept.mk (HX.out.new_ hb9); clear hb9 c0 c1 d0 hbAw hbOw; obtain ⟨c0, c1, -⟩ := (HSH.out.new_ HX9.out.wr.wa.blw).rat HXK.out; have hbAw := size9 HSB.out.1 HX9.out.wr.wa.blw)
                      go_roundw
                      case rel => exact ⟨k + 1, sh1, op1, by omega, by go_num, HX9⟩
                      case measure => simp [intOf]; omega
                  · have e6 : decide (x.n ≤ 12) = false := decide_eq_false h6
                    go_wp2_with (go_at_call 22; refine (V1 _).mono ?_; rintro e w9 ⟨rfl, hb9⟩; rw [HXO.out]; have HX9 := Kept.mk (HX.out.new_ hb9); clear hb9 c0 c1 d0 hbAw hbOw; obtain ⟨c0, c1, -⟩ := (HSH.out.new_ HX9.out.wr.wa.blw).rat HXK.out; have hbAw := size9 HSB.out.1 HX9.out.wr.wa.blw)
                    go_roundw
                    case rel => exact ⟨k + 1, sh1, op1, by omega, by go_num, HX9⟩
                    case measure => simp [intOf]; omega
                · have e5 : decide (0 ≤ x.n) = false := decide_eq_false h5
                  go_wp2_with (go_at_call 22; refine (V1 _).mono ?_; rintro e w9 ⟨rfl, hb9⟩; rw [HXO.out]; have HX9 := Kept.mk (HX.out.new_ hb9); clear hb9 c0 c1 d0 hbAw hbOw; obtain ⟨c0, c1, -⟩ := (HSH.out.new_ HX9.out.wr.wa.blw).rat HXK.out; have hbAw := size9 HSB.out.1 HX9.out.wr.wa.blw)
                  go_roundw
                  case rel => exact ⟨k + 1, sh1, op1, by omega, by go_num, HX9⟩
                  case measure => simp [intOf]; omega
          · have e2 : decide ((k : Int) < (no : Int)) = false := decide_eq_false (by omega)
            have e2' : decide (k < no) = false := decide_eq_false h2
            go_wp2_with fail
            go_roundw
            case rel => exact ⟨k + 1, sh1, op1, by omega, by go_num, HX⟩
            case measure => simp [intOf]; omega
        · have e1 : decide ((k : Int) < (ns : Int)) = false := decide_eq_false (by omega)
          have e1' : decide (k < ns) = false := decide_eq_false h1
          go_wp2_with fail
          go_roundw
          case rel => exact ⟨k + 1, sh1, op1, by omega, by go_num, HX⟩
          case measure => simp [intOf]; omega
      · obtain rfl : k = caps.length := by omega
        clear hlt
        have hnum := HX.out.ow.num
        have H0 := Kept.mk (shO_pos hnum)
        have BC := fun w h => bound_c ⟨caps, cA, ck, flows, fA, fk⟩ w h HVN.out
        obtain ⟨MB, hMB⟩ : ∃ q, q = 2 * (caps.length + flows.length) + 2 := ⟨_, rfl⟩
        have RC := fun w h1 h2 => run_c ⟨caps, cA, ck, flows, fA, fk⟩ ⟨sh1, A, ka, op1, A', kb⟩ MB w h1 HVN.out hf5 h2 (by omega) (by rw [hMB]; exact fun g g' h3 h4 => run_bound HFI.out H0.out h3 h4)
        unfold nval at BC RC
        unfold sval at RC
        dsimp only at BC RC
        rw [← hMB] at BC
        have e1 : sh1.length = caps.length := hnum.ls
        have e2 : op1.length = caps.length := hnum.lo
        rw [e1, e2] at RC
        have HST := Kept.mk (fun (T : PSt) (j : Nat) (g : Nat → Option Rat) (h1 : Rch (anet ⟨caps, cA, ck, flows, fA, fk⟩) (shO ⟨sh1, A, ka, op1, A', kb⟩) j (shO T)) (h2 : StepA (anet ⟨caps, cA, ck, flows, fA, fk⟩) (shO T) g) (h3 : ∀ l, l < caps.length → shO T l = g l) => rest_star HFI.out H0.out h1 h2 h3)
        clear hnum hMB e1 e2
        go_upto_region 18 with fail
        go_cut [17, 18, 19] (fun s17 s18 s19 wx => ∃ (b17 : Nat) (T : PSt) (m1 m2 : Nat) (rd er : Int), s17 = .pointer (some ⟨b17, 0, none⟩) ∧ s18 = .int .i64 rd ∧ s19 = .int .i64 er ∧ Kept ((er = 10 ∧ T = ⟨[], none, 0, [], none, 0⟩ ∧ m1 = 0 ∧ m2 = 0) ∨ (er = 0 ∧ m1 = caps.length ∧ m2 = caps.length ∧ XAt wx wx.heap.size caps.length T ∧ ∀ l, l < caps.length → shO T l = starA (anet ⟨caps, cA, ck, flows, fA, fk⟩) (rt rs) l)) ∧ Kept (WR w wx ⟨caps, cA, ck, flows, fA, fk⟩ rate gq rs ∧ Blk wx b17 54 #[.slice T.sA m1 T.sk, .slice T.oA m2 T.ok]))
        case first =>
          refine wp_region_held_drew (S := fun w' => w'.cell? ⟨w.heap.size, 0, none⟩ = some (.slice cA caps.length ck) ∧ w'.cell? ⟨w.heap.size, 1, none⟩ = some (.slice fA flows.length fk) ∧ w'.cell? ⟨b15, 0, none⟩ = some (.slice A caps.length ka) ∧ w'.cell? ⟨b15, 1, none⟩ = some (.slice A' caps.length kb)) (by kernel_rfl) (by (try dsimp only); exact ws_keep (HX.out.new_ (bdrew (Below.refl _ _)))) (fun hHeld => ?_)
          obtain ⟨X0, hX0⟩ : ∃ X, X = wr.drew := ⟨_, rfl⟩
          rw [← hX0] at hHeld ⊢
          have HB : Kept (Below wr.heap.size wr X0) := ⟨by rw [hX0]; exact bdrew (Below.refl _ _)⟩
          clear hX0
          refine wpAnyH_take (i := 0) (v := ?_) rfl (by kernel_rfl) (by kernel_rfl) (by kernel_rfl) (fun _ _ _ h => h) (Or.inl ⟨by rfl, ?_⟩) (by assumption) ?_; rotate_left; (intro w hSw; (try dsimp only at hSw); go_simp; try (with_reducible rfl)); try simp only [Act.put, List.setIfInBounds_toArray, List.set_cons_zero, List.set_cons_succ, List.getElem_toArray, List.getElem_cons_succ, List.getElem_cons_zero]
          refine wpAnyH_take (i := 1) (v := ?_) rfl (by kernel_rfl) (by kernel_rfl) (by kernel_rfl) (fun _ _ _ h => h) (Or.inl ⟨by rfl, ?_⟩) (by assumption) ?_; rotate_left; (intro w hSw; (try dsimp only at hSw); go_simp; try (with_reducible rfl)); try simp only [Act.put, List.setIfInBounds_toArray, List.set_cons_zero, List.set_cons_succ, List.getElem_toArray, List.getElem_cons_succ, List.getElem_cons_zero]
          refine wpAnyH_take (i := 2) (v := ?_) rfl (by kernel_rfl) (by kernel_rfl) (by kernel_rfl) (fun _ _ _ h => h) (Or.inl ⟨by rfl, ?_⟩) (by assumption) ?_; rotate_left; (intro w hSw; (try dsimp only at hSw); go_simp; try (with_reducible rfl)); try simp only [Act.put, List.setIfInBounds_toArray, List.set_cons_zero, List.set_cons_succ, List.getElem_toArray, List.getElem_cons_succ, List.getElem_cons_zero]
          refine wpAnyH_ready (rs := [3, 9]) (by kernel_rfl) (by simp) ?_; refine AllReadyH.cons rfl (fun K hK => ?_) (AllReadyH.cons rfl (fun K hK => ?_) AllReadyH.nil)
          · go_simp
            refine (BC _ (HN.out.new_ (HX.out.new_ HB.out).wr.wa.blw)).mono ?_
            rintro e X1 ⟨rfl, hb⟩
            replace HB := Kept.mk (HB.out.trans (hb.mono HB.out.size))
            clear hb
            try go_wp2_with fail
            refine hK.out _ _ (by (try dsimp only); exact ws_keep (HX.out.new_ HB.out)) (fun hHeld => ?_); clear hK K; try simp only [Act.put, List.setIfInBounds_toArray, List.set_cons_zero, List.set_cons_succ, List.getElem_toArray, List.getElem_cons_succ, List.getElem_cons_zero]
            refine wpAnyH_ready (rs := [4, 9]) (by kernel_rfl) (by simp) ?_; refine AllReadyH.cons rfl (fun K hK => ?_) (AllReadyH.cons rfl (fun K hK => ?_) AllReadyH.nil)
            · go_simp
              refine (RC _ (HN.out.new_ (HX.out.new_ HB.out).wr.wa.blw) (HX.out.new_ HB.out).ow.at).mono ?_
              intro e X2 hrr
              obtain ⟨T, m1, m2, rd, er, rfl, hcase, hb⟩ := hrr
              have HXO : Kept ((er = 10 ∧ T = ⟨[], none, 0, [], none, 0⟩ ∧ m1 = 0 ∧ m2 = 0) ∨ (er = 0 ∧ m1 = caps.length ∧ m2 = caps.length ∧ XOw X2 wr.heap.size caps.length T ∧ ∀ l, l < caps.length → shO T l = starA (anet ⟨caps, cA, ck, flows, fA, fk⟩) (rt rs) l)) := ⟨by
                rcases hcase with h | ⟨h1, h2, h3, h4, j, g, h5, h6, h7⟩
                · exact Or.inl h
                · exact Or.inr ⟨h1, h2, h3, h4.base HB.out.size, HST.out T j g h5 h6 h7⟩⟩
              replace HB := Kept.mk (HB.out.trans (hb.mono HB.out.size))
              clear hb hcase
              try go_wp2_with fail
              refine hK.out _ _ (by (try dsimp only); exact ws_keep (HX.out.new_ HB.out)) (fun hHeld => ?_); clear hK K; try simp only [Act.put, List.setIfInBounds_toArray, List.set_cons_zero, List.set_cons_succ, List.getElem_toArray, List.getElem_cons_succ, List.getElem_cons_zero]
              refine wpAnyH_take (i := 5) (v := ?_) rfl (by kernel_rfl) (by kernel_rfl) (by kernel_rfl) (fun _ _ _ h => h) (Or.inl ⟨by rfl, ?_⟩) (by assumption) ?_; rotate_left; (intro w hSw; (try dsimp only at hSw); go_simp; try (with_reducible rfl)); try simp only [Act.put, List.setIfInBounds_toArray, List.set_cons_zero, List.set_cons_succ, List.getElem_toArray, List.getElem_cons_succ, List.getElem_cons_zero]
              refine wpAnyH_take (i := 6) (v := ?_) rfl (by kernel_rfl) (by kernel_rfl) (by kernel_rfl) (fun _ _ _ h => h) (Or.inl ⟨by rfl, ?_⟩) (by assumption) ?_; rotate_left; (intro w hSw; (try dsimp only at hSw); go_simp; try (with_reducible rfl)); try simp only [Act.put, List.setIfInBounds_toArray, List.set_cons_zero, List.set_cons_succ, List.getElem_toArray, List.getElem_cons_succ, List.getElem_cons_zero]
              refine wpAnyH_take (i := 7) (v := ?_) rfl (by kernel_rfl) (by kernel_rfl) (by kernel_rfl) (fun _ _ _ h => h) (Or.inl ⟨by rfl, ?_⟩) (by assumption) ?_; rotate_left; (intro w hSw; (try dsimp only at hSw); go_simp; try (with_reducible rfl)); try simp only [Act.put, List.setIfInBounds_toArray, List.set_cons_zero, List.set_cons_succ, List.getElem_toArray, List.getElem_cons_succ, List.getElem_cons_zero]
              refine wpAnyH_take (i := 8) (v := ?_) rfl (by kernel_rfl) (by kernel_rfl) (by kernel_rfl) (fun _ _ _ h => h) (Or.inl ⟨by rfl, ?_⟩) (by assumption) ?_; rotate_left; (intro w hSw; (try dsimp only at hSw); go_simp; try (with_reducible rfl)); try simp only [Act.put, List.setIfInBounds_toArray, List.set_cons_zero, List.set_cons_succ, List.getElem_toArray, List.getElem_cons_succ, List.getElem_cons_zero]
              refine wpAnyH_ready (rs := [9]) (by kernel_rfl) (by simp) ?_; refine AllReadyH.cons rfl (fun K hK => ?_) AllReadyH.nil
              go_simp
              obtain ⟨X3, b17, hX, hbv, hb, hbx⟩ := al_step X2 54 #[.slice none 0 0, .slice none 0 0]
              rw [← hX, ← hbv]
              have hle17 : wr.heap.size ≤ b17 := by rw [hbv]; exact HB.out.size
              replace HXO : Kept ((er = 10 ∧ T = ⟨[], none, 0, [], none, 0⟩ ∧ m1 = 0 ∧ m2 = 0) ∨ (er = 0 ∧ m1 = caps.length ∧ m2 = caps.length ∧ XOw X3 wr.heap.size caps.length T ∧ ∀ l, l < caps.length → shO T l = starA (anet ⟨caps, cA, ck, flows, fA, fk⟩) (rt rs) l)) := ⟨HXO.out.imp_right fun h => ⟨h.1, h.2.1, h.2.2.1, h.2.2.2.1.new_ hb, h.2.2.2.2⟩⟩
              replace HB := Kept.mk (HB.out.trans (hb.mono HB.out.size))
              have H17 := Kept.mk hbx
              clear hb hbx hX hbv
              refine hK.out _ _ (by (try dsimp only); exact ws_keep (HX.out.new_ HB.out)) (fun hHeld => ?_); clear hK K; try simp only [Act.put, List.setIfInBounds_toArray, List.set_cons_zero, List.set_cons_succ, List.getElem_toArray, List.getElem_cons_succ, List.getElem_cons_zero]
              refine wpAnyH_ready (rs := [10]) (by kernel_rfl) (by simp) ?_; refine AllReadyH.cons rfl (fun K hK => ?_) AllReadyH.nil
              have z0 := H17.out.cell 0 (v := .slice none 0 0) rfl
              have z1 := H17.out.cell 1 (v := .slice none 0 0) rfl
              have z2 := H17.out.free 0
              have z3 := H17.out.free 1
              have z4 := H17.out.lt
              go_simp
              obtain ⟨X4, hX⟩ : ∃ X, X = (X3.setCell ⟨b17, 0, none⟩ (.slice T.sA m1 T.sk)).setCell ⟨b17, 1, none⟩ (.slice T.oA m2 T.ok) := ⟨_, rfl⟩
              rw [← hX]
              replace HXO : Kept ((er = 10 ∧ T = ⟨[], none, 0, [], none, 0⟩ ∧ m1 = 0 ∧ m2 = 0) ∨ (er = 0 ∧ m1 = caps.length ∧ m2 = caps.length ∧ XOw X4 wr.heap.size caps.length T ∧ ∀ l, l < caps.length → shO T l = starA (anet ⟨caps, cA, ck, flows, fA, fk⟩) (rt rs) l)) := ⟨HXO.out.imp_right fun h => ⟨h.1, h.2.1, h.2.2.1, by rw [hX]; exact (h.2.2.2.1.far_ H17.out (by decide) (by decide) 0 _).far_ (H17.out.set_ 0 _) (by decide) (by decide) 1 _, h.2.2.2.2⟩⟩
              replace H17 : Kept (Blk X4 b17 54 #[.slice T.sA m1 T.sk, .slice T.oA m2 T.ok]) := ⟨by rw [hX]; exact (H17.out.set_ 0 _).to 1 _ rfl⟩
              replace HB : Kept (Below wr.heap.size wr X4) := ⟨by rw [hX]; exact (HB.out.setCell (by simp only; omega) _).setCell (by simp only; omega) _⟩
              clear z0 z1 z2 z3 z4 hX
              refine hK.out _ _ (by (try dsimp only); exact ws_keep (HX.out.new_ HB.out)) (fun hHeld => ?_); clear hK K; try simp only [Act.put, List.setIfInBounds_toArray, List.set_cons_zero, List.set_cons_succ, List.getElem_toArray, List.getElem_cons_succ, List.getElem_cons_zero]
              refine wpAnyH_take (i := 11) (v := ?_) rfl (by kernel_rfl) (by kernel_rfl) (by kernel_rfl) (fun _ _ _ h => h) (Or.inl ⟨by rfl, ?_⟩) (by assumption) ?_; rotate_left; (intro w hSw; (try dsimp only at hSw); go_simp; try (with_reducible rfl)); try simp only [Act.put, List.setIfInBounds_toArray, List.set_cons_zero, List.set_cons_succ, List.getElem_toArray, List.getElem_cons_succ, List.getElem_cons_zero]
              refine wpAnyH_take (i := 12) (v := ?_) rfl (by kernel_rfl) (by kernel_rfl) (by kernel_rfl) (fun _ _ _ h => h) (Or.inl ⟨by rfl, ?_⟩) (by assumption) ?_; rotate_left; (intro w hSw; (try dsimp only at hSw); go_simp; try (with_reducible rfl)); try simp only [Act.put, List.setIfInBounds_toArray, List.set_cons_zero, List.set_cons_succ, List.getElem_toArray, List.getElem_cons_succ, List.getElem_cons_zero]
              refine wpAnyH_done (by kernel_rfl) ?_ _
              go_wp2_with fail
              go_meet
              refine ⟨b17, T, m1, m2, rd, er, rfl, rfl, rfl, ⟨HXO.out.imp_right fun h => ⟨h.1, h.2.1, h.2.2.1, h.2.2.2.1.at, h.2.2.2.2⟩⟩, ⟨(HX.out.new_ HB.out).wr, H17.out⟩⟩
            · go_simp
              obtain ⟨X2, b17, hX, hbv, hb, hbx⟩ := al_step X1 54 #[.slice none 0 0, .slice none 0 0]
              rw [← hX, ← hbv]
              have hle17 : wr.heap.size ≤ b17 := by rw [hbv]; exact HB.out.size
              replace HB := Kept.mk (HB.out.trans (hb.mono HB.out.size))
              have H17 := Kept.mk hbx
              clear hb hbx hX hbv
              refine hK.out _ _ (by (try dsimp only); exact ws_keep (HX.out.new_ HB.out)) (fun hHeld => ?_); clear hK K; try simp only [Act.put, List.setIfInBounds_toArray, List.set_cons_zero, List.set_cons_succ, List.getElem_toArray, List.getElem_cons_succ, List.getElem_cons_zero]
              refine wpAnyH_ready (rs := [4]) (by kernel_rfl) (by simp) ?_; refine AllReadyH.cons rfl (fun K hK => ?_) AllReadyH.nil
              go_simp
              refine (RC _ (HN.out.new_ (HX.out.new_ HB.out).wr.wa.blw) (HX.out.new_ HB.out).ow.at).mono ?_
              intro e X3 hrr
              obtain ⟨T, m1, m2, rd, er, rfl, hcase, hb⟩ := hrr
              replace H17 := Kept.mk (H17.out.new_ hb)
              have HXO : Kept ((er = 10 ∧ T = ⟨[], none, 0, [], none, 0⟩ ∧ m1 = 0 ∧ m2 = 0) ∨ (er = 0 ∧ m1 = caps.length ∧ m2 = caps.length ∧ XOw X3 wr.heap.size caps.length T ∧ ∀ l, l < caps.length → shO T l = starA (anet ⟨caps, cA, ck, flows, fA, fk⟩) (rt rs) l)) := ⟨by
                rcases hcase with h | ⟨h1, h2, h3, h4, j, g, h5, h6, h7⟩
                · exact Or.inl h
                · exact Or.inr ⟨h1, h2, h3, h4.base HB.out.size, HST.out T j g h5 h6 h7⟩⟩
              replace HB := Kept.mk (HB.out.trans (hb.mono HB.out.size))
              clear hb hcase
              try go_wp2_with fail
              refine hK.out _ _ (by (try dsimp only); exact ws_keep (HX.out.new_ HB.out)) (fun hHeld => ?_); clear hK K; try simp only [Act.put, List.setIfInBounds_toArray, List.set_cons_zero, List.set_cons_succ, List.getElem_toArray, List.getElem_cons_succ, List.getElem_cons_zero]
              refine wpAnyH_take (i := 5) (v := ?_) rfl (by kernel_rfl) (by kernel_rfl) (by kernel_rfl) (fun _ _ _ h => h) (Or.inl ⟨by rfl, ?_⟩) (by assumption) ?_; rotate_left; (intro w hSw; (try dsimp only at hSw); go_simp; try (with_reducible rfl)); try simp only [Act.put, List.setIfInBounds_toArray, List.set_cons_zero, List.set_cons_succ, List.getElem_toArray, List.getElem_cons_succ, List.getElem_cons_zero]
              refine wpAnyH_take (i := 6) (v := ?_) rfl (by kernel_rfl) (by kernel_rfl) (by kernel_rfl) (fun _ _ _ h => h) (Or.inl ⟨by rfl, ?_⟩) (by assumption) ?_; rotate_left; (intro w hSw; (try dsimp only at hSw); go_simp; try (with_reducible rfl)); try simp only [Act.put, List.setIfInBounds_toArray, List.set_cons_zero, List.set_cons_succ, List.getElem_toArray, List.getElem_cons_succ, List.getElem_cons_zero]
              refine wpAnyH_take (i := 7) (v := ?_) rfl (by kernel_rfl) (by kernel_rfl) (by kernel_rfl) (fun _ _ _ h => h) (Or.inl ⟨by rfl, ?_⟩) (by assumption) ?_; rotate_left; (intro w hSw; (try dsimp only at hSw); go_simp; try (with_reducible rfl)); try simp only [Act.put, List.setIfInBounds_toArray, List.set_cons_zero, List.set_cons_succ, List.getElem_toArray, List.getElem_cons_succ, List.getElem_cons_zero]
              refine wpAnyH_take (i := 8) (v := ?_) rfl (by kernel_rfl) (by kernel_rfl) (by kernel_rfl) (fun _ _ _ h => h) (Or.inl ⟨by rfl, ?_⟩) (by assumption) ?_; rotate_left; (intro w hSw; (try dsimp only at hSw); go_simp; try (with_reducible rfl)); try simp only [Act.put, List.setIfInBounds_toArray, List.set_cons_zero, List.set_cons_succ, List.getElem_toArray, List.getElem_cons_succ, List.getElem_cons_zero]
              refine wpAnyH_ready (rs := [10]) (by kernel_rfl) (by simp) ?_; refine AllReadyH.cons rfl (fun K hK => ?_) AllReadyH.nil
              have z0 := H17.out.cell 0 (v := .slice none 0 0) rfl
              have z1 := H17.out.cell 1 (v := .slice none 0 0) rfl
              have z2 := H17.out.free 0
              have z3 := H17.out.free 1
              have z4 := H17.out.lt
              go_simp
              obtain ⟨X4, hX⟩ : ∃ X, X = (X3.setCell ⟨b17, 0, none⟩ (.slice T.sA m1 T.sk)).setCell ⟨b17, 1, none⟩ (.slice T.oA m2 T.ok) := ⟨_, rfl⟩
              rw [← hX]
              replace HXO : Kept ((er = 10 ∧ T = ⟨[], none, 0, [], none, 0⟩ ∧ m1 = 0 ∧ m2 = 0) ∨ (er = 0 ∧ m1 = caps.length ∧ m2 = caps.length ∧ XOw X4 wr.heap.size caps.length T ∧ ∀ l, l < caps.length → shO T l = starA (anet ⟨caps, cA, ck, flows, fA, fk⟩) (rt rs) l)) := ⟨HXO.out.imp_right fun h => ⟨h.1, h.2.1, h.2.2.1, by rw [hX]; exact (h.2.2.2.1.far_ H17.out (by decide) (by decide) 0 _).far_ (H17.out.set_ 0 _) (by decide) (by decide) 1 _, h.2.2.2.2⟩⟩
              replace H17 : Kept (Blk X4 b17 54 #[.slice T.sA m1 T.sk, .slice T.oA m2 T.ok]) := ⟨by rw [hX]; exact (H17.out.set_ 0 _).to 1 _ rfl⟩
              replace HB : Kept (Below wr.heap.size wr X4) := ⟨by rw [hX]; exact (HB.out.setCell (by simp only; omega) _).setCell (by simp only; omega) _⟩
              clear z0 z1 z2 z3 z4 hX
              refine hK.out _ _ (by (try dsimp only); exact ws_keep (HX.out.new_ HB.out)) (fun hHeld => ?_); clear hK K; try simp only [Act.put, List.setIfInBounds_toArray, List.set_cons_zero, List.set_cons_succ, List.getElem_toArray, List.getElem_cons_succ, List.getElem_cons_zero]
              refine wpAnyH_take (i := 11) (v := ?_) rfl (by kernel_rfl) (by kernel_rfl) (by kernel_rfl) (fun _ _ _ h => h) (Or.inl ⟨by rfl, ?_⟩) (by assumption) ?_; rotate_left; (intro w hSw; (try dsimp only at hSw); go_simp; try (with_reducible rfl)); try simp only [Act.put, List.setIfInBounds_toArray, List.set_cons_zero, List.set_cons_succ, List.getElem_toArray, List.getElem_cons_succ, List.getElem_cons_zero]
              refine wpAnyH_take (i := 12) (v := ?_) rfl (by kernel_rfl) (by kernel_rfl) (by kernel_rfl) (fun _ _ _ h => h) (Or.inl ⟨by rfl, ?_⟩) (by assumption) ?_; rotate_left; (intro w hSw; (try dsimp only at hSw); go_simp; try (with_reducible rfl)); try simp only [Act.put, List.setIfInBounds_toArray, List.set_cons_zero, List.set_cons_succ, List.getElem_toArray, List.getElem_cons_succ, List.getElem_cons_zero]
              refine wpAnyH_done (by kernel_rfl) ?_ _
              go_wp2_with fail
              go_meet
              refine ⟨b17, T, m1, m2, rd, er, rfl, rfl, rfl, ⟨HXO.out.imp_right fun h => ⟨h.1, h.2.1, h.2.2.1, h.2.2.2.1.at, h.2.2.2.2⟩⟩, ⟨(HX.out.new_ HB.out).wr, H17.out⟩⟩
          · go_simp
            obtain ⟨X1, b17, hX, hbv, hb, hbx⟩ := al_step X0 54 #[.slice none 0 0, .slice none 0 0]
            rw [← hX, ← hbv]
            have hle17 : wr.heap.size ≤ b17 := by rw [hbv]; exact HB.out.size
            replace HB := Kept.mk (HB.out.trans (hb.mono HB.out.size))
            have H17 := Kept.mk hbx
            clear hb hbx hX hbv
            refine hK.out _ _ (by (try dsimp only); exact ws_keep (HX.out.new_ HB.out)) (fun hHeld => ?_); clear hK K; try simp only [Act.put, List.setIfInBounds_toArray, List.set_cons_zero, List.set_cons_succ, List.getElem_toArray, List.getElem_cons_succ, List.getElem_cons_zero]
            refine wpAnyH_ready (rs := [3]) (by kernel_rfl) (by simp) ?_; refine AllReadyH.cons rfl (fun K hK => ?_) AllReadyH.nil
            go_simp
            refine (BC _ (HN.out.new_ (HX.out.new_ HB.out).wr.wa.blw)).mono ?_
            rintro e X2 ⟨rfl, hb⟩
            replace H17 := Kept.mk (H17.out.new_ hb)
            replace HB := Kept.mk (HB.out.trans (hb.mono HB.out.size))
            clear hb
            try go_wp2_with fail
            refine hK.out _ _ (by (try dsimp only); exact ws_keep (HX.out.new_ HB.out)) (fun hHeld => ?_); clear hK K; try simp only [Act.put, List.setIfInBounds_toArray, List.set_cons_zero, List.set_cons_succ, List.getElem_toArray, List.getElem_cons_succ, List.getElem_cons_zero]
            refine wpAnyH_ready (rs := [4]) (by kernel_rfl) (by simp) ?_; refine AllReadyH.cons rfl (fun K hK => ?_) AllReadyH.nil
            go_simp
            refine (RC _ (HN.out.new_ (HX.out.new_ HB.out).wr.wa.blw) (HX.out.new_ HB.out).ow.at).mono ?_
            intro e X3 hrr
            obtain ⟨T, m1, m2, rd, er, rfl, hcase, hb⟩ := hrr
            replace H17 := Kept.mk (H17.out.new_ hb)
            have HXO : Kept ((er = 10 ∧ T = ⟨[], none, 0, [], none, 0⟩ ∧ m1 = 0 ∧ m2 = 0) ∨ (er = 0 ∧ m1 = caps.length ∧ m2 = caps.length ∧ XOw X3 wr.heap.size caps.length T ∧ ∀ l, l < caps.length → shO T l = starA (anet ⟨caps, cA, ck, flows, fA, fk⟩) (rt rs) l)) := ⟨by
              rcases hcase with h | ⟨h1, h2, h3, h4, j, g, h5, h6, h7⟩
              · exact Or.inl h
              · exact Or.inr ⟨h1, h2, h3, h4.base HB.out.size, HST.out T j g h5 h6 h7⟩⟩
            replace HB := Kept.mk (HB.out.trans (hb.mono HB.out.size))
            clear hb hcase
            try go_wp2_with fail
            refine hK.out _ _ (by (try dsimp only); exact ws_keep (HX.out.new_ HB.out)) (fun hHeld => ?_); clear hK K; try simp only [Act.put, List.setIfInBounds_toArray, List.set_cons_zero, List.set_cons_succ, List.getElem_toArray, List.getElem_cons_succ, List.getElem_cons_zero]
            refine wpAnyH_take (i := 5) (v := ?_) rfl (by kernel_rfl) (by kernel_rfl) (by kernel_rfl) (fun _ _ _ h => h) (Or.inl ⟨by rfl, ?_⟩) (by assumption) ?_; rotate_left; (intro w hSw; (try dsimp only at hSw); go_simp; try (with_reducible rfl)); try simp only [Act.put, List.setIfInBounds_toArray, List.set_cons_zero, List.set_cons_succ, List.getElem_toArray, List.getElem_cons_succ, List.getElem_cons_zero]
            refine wpAnyH_take (i := 6) (v := ?_) rfl (by kernel_rfl) (by kernel_rfl) (by kernel_rfl) (fun _ _ _ h => h) (Or.inl ⟨by rfl, ?_⟩) (by assumption) ?_; rotate_left; (intro w hSw; (try dsimp only at hSw); go_simp; try (with_reducible rfl)); try simp only [Act.put, List.setIfInBounds_toArray, List.set_cons_zero, List.set_cons_succ, List.getElem_toArray, List.getElem_cons_succ, List.getElem_cons_zero]
            refine wpAnyH_take (i := 7) (v := ?_) rfl (by kernel_rfl) (by kernel_rfl) (by kernel_rfl) (fun _ _ _ h => h) (Or.inl ⟨by rfl, ?_⟩) (by assumption) ?_; rotate_left; (intro w hSw; (try dsimp only at hSw); go_simp; try (with_reducible rfl)); try simp only [Act.put, List.setIfInBounds_toArray, List.set_cons_zero, List.set_cons_succ, List.getElem_toArray, List.getElem_cons_succ, List.getElem_cons_zero]
            refine wpAnyH_take (i := 8) (v := ?_) rfl (by kernel_rfl) (by kernel_rfl) (by kernel_rfl) (fun _ _ _ h => h) (Or.inl ⟨by rfl, ?_⟩) (by assumption) ?_; rotate_left; (intro w hSw; (try dsimp only at hSw); go_simp; try (with_reducible rfl)); try simp only [Act.put, List.setIfInBounds_toArray, List.set_cons_zero, List.set_cons_succ, List.getElem_toArray, List.getElem_cons_succ, List.getElem_cons_zero]
            refine wpAnyH_ready (rs := [10]) (by kernel_rfl) (by simp) ?_; refine AllReadyH.cons rfl (fun K hK => ?_) AllReadyH.nil
            have z0 := H17.out.cell 0 (v := .slice none 0 0) rfl
            have z1 := H17.out.cell 1 (v := .slice none 0 0) rfl
            have z2 := H17.out.free 0
            have z3 := H17.out.free 1
            have z4 := H17.out.lt
            go_simp
            obtain ⟨X4, hX⟩ : ∃ X, X = (X3.setCell ⟨b17, 0, none⟩ (.slice T.sA m1 T.sk)).setCell ⟨b17, 1, none⟩ (.slice T.oA m2 T.ok) := ⟨_, rfl⟩
            rw [← hX]
            replace HXO : Kept ((er = 10 ∧ T = ⟨[], none, 0, [], none, 0⟩ ∧ m1 = 0 ∧ m2 = 0) ∨ (er = 0 ∧ m1 = caps.length ∧ m2 = caps.length ∧ XOw X4 wr.heap.size caps.length T ∧ ∀ l, l < caps.length → shO T l = starA (anet ⟨caps, cA, ck, flows, fA, fk⟩) (rt rs) l)) := ⟨HXO.out.imp_right fun h => ⟨h.1, h.2.1, h.2.2.1, by rw [hX]; exact (h.2.2.2.1.far_ H17.out (by decide) (by decide) 0 _).far_ (H17.out.set_ 0 _) (by decide) (by decide) 1 _, h.2.2.2.2⟩⟩
            replace H17 : Kept (Blk X4 b17 54 #[.slice T.sA m1 T.sk, .slice T.oA m2 T.ok]) := ⟨by rw [hX]; exact (H17.out.set_ 0 _).to 1 _ rfl⟩
            replace HB : Kept (Below wr.heap.size wr X4) := ⟨by rw [hX]; exact (HB.out.setCell (by simp only; omega) _).setCell (by simp only; omega) _⟩
            clear z0 z1 z2 z3 z4 hX
            refine hK.out _ _ (by (try dsimp only); exact ws_keep (HX.out.new_ HB.out)) (fun hHeld => ?_); clear hK K; try simp only [Act.put, List.setIfInBounds_toArray, List.set_cons_zero, List.set_cons_succ, List.getElem_toArray, List.getElem_cons_succ, List.getElem_cons_zero]
            refine wpAnyH_take (i := 11) (v := ?_) rfl (by kernel_rfl) (by kernel_rfl) (by kernel_rfl) (fun _ _ _ h => h) (Or.inl ⟨by rfl, ?_⟩) (by assumption) ?_; rotate_left; (intro w hSw; (try dsimp only at hSw); go_simp; try (with_reducible rfl)); try simp only [Act.put, List.setIfInBounds_toArray, List.set_cons_zero, List.set_cons_succ, List.getElem_toArray, List.getElem_cons_succ, List.getElem_cons_zero]
            refine wpAnyH_take (i := 12) (v := ?_) rfl (by kernel_rfl) (by kernel_rfl) (by kernel_rfl) (fun _ _ _ h => h) (Or.inl ⟨by rfl, ?_⟩) (by assumption) ?_; rotate_left; (intro w hSw; (try dsimp only at hSw); go_simp; try (with_reducible rfl)); try simp only [Act.put, List.setIfInBounds_toArray, List.set_cons_zero, List.set_cons_succ, List.getElem_toArray, List.getElem_cons_succ, List.getElem_cons_zero]
            refine wpAnyH_done (by kernel_rfl) ?_ _
            go_wp2_with fail
            go_meet
            refine ⟨b17, T, m1, m2, rd, er, rfl, rfl, rfl, ⟨HXO.out.imp_right fun h => ⟨h.1, h.2.1, h.2.2.1, h.2.2.2.1.at, h.2.2.2.2⟩⟩, ⟨(HX.out.new_ HB.out).wr, H17.out⟩⟩
        case rest =>
          obtain ⟨b17, T, m1, m2, rd, er, rfl, rfl, rfl, HCS, HR0⟩ := hcut
          clear HX BC RC HST H0
          have XR0 := fun w h => xrates0_c ⟨caps, cA, ck, flows, fA, fk⟩ w h HVN.out
          have XRC := fun T w h1 h2 h3 => xrates_c ⟨caps, cA, ck, flows, fA, fk⟩ T w h1 HVN.out hf5 h2 h3
          unfold nval at XR0 XRC
          dsimp only at XR0 XRC
          go_upto_region 19 with fail
          go_cut [20, 21] (fun s20 s21 wx => ∃ (A2 : Option Addr) (l2 k2 : Nat) (g2 : Int), s20 = .slice A2 l2 k2 ∧ s21 = .int .i64 g2 ∧ Kept (er = 10 ∨ (er = 0 ∧ g2 = 0 ∧ ∃ L : List Rq, l2 = L.length ∧ L.length = flows.length ∧ RowsAt wx wx.heap.size 2 ccell A2 L ∧ AllOk L ∧ ∀ (i : Nat) (x y : Rq), L[i]? = some x → rs[i]? = some y → cmpQ x y = 0)) ∧ Kept (WR w wx ⟨caps, cA, ck, flows, fA, fk⟩ rate gq rs))
          case first =>
            rcases HCS.out with ⟨he, hT, hm1, hm2⟩ | ⟨he, hm1, hm2, hxo, hst⟩
            · subst he hT hm1 hm2
              have n0 := HR0.out.1.wa.x.cell 0 (v := .slice cA caps.length ck) rfl; have n1 := HR0.out.1.wa.x.cell 1 (v := .slice fA flows.length fk) rfl; have nl := HR0.out.1.wa.x.lt
              have q0 := HR0.out.2.cell 0 (v := .slice none 0 0) rfl
              have q1 := HR0.out.2.cell 1 (v := .slice none 0 0) rfl
              have ql := HR0.out.2.lt
              go_wp2_with (go_at_call 25; refine (XR0 _ (HN.out.new_ HR0.out.1.wa.blw)).mono ?_; rintro e w2 ⟨A2, l2, k2, g2, rfl, hb2⟩; have HR2 := Kept.mk (HR0.out.1.new_ hb2); clear hb2)
              go_meet
              exact ⟨A2, l2, k2, g2, rfl, rfl, ⟨Or.inl (by first | rfl | trivial)⟩, HR2⟩
            · subst he hm1 hm2
              have hsr := fun i hi => star_rates (n := ⟨caps, cA, ck, flows, fA, fk⟩) HVN.out HFI.out hxo.num hst (i := i) hi
              have XQ := fun w h1 h2 => XRC T w h1 h2 (fun i hi => (hsr i hi).1)
              have HSR := Kept.mk hsr
              have HXO := Kept.mk hxo
              have n0 := HR0.out.1.wa.x.cell 0 (v := .slice cA caps.length ck) rfl; have n1 := HR0.out.1.wa.x.cell 1 (v := .slice fA flows.length fk) rfl; have nl := HR0.out.1.wa.x.lt
              have q0 := HR0.out.2.cell 0 (v := .slice T.sA caps.length T.sk) rfl
              have q1 := HR0.out.2.cell 1 (v := .slice T.oA caps.length T.ok) rfl
              have ql := HR0.out.2.lt
              clear hst hxo hsr
              go_wp2_with (go_at_call 25; refine (XQ _ (HN.out.new_ HR0.out.1.wa.blw) HXO.out).mono ?_; rintro e w2 ⟨A2, k2, rfl, hrw, hb2⟩; have HR2 := Kept.mk (HR0.out.1.new_ hb2); have HRW := Kept.mk hrw; clear hb2 hrw)
              go_meet
              refine ⟨A2, flows.length, k2, 0, rfl, rfl, ⟨Or.inr ⟨by first | rfl | trivial, by first | rfl | trivial, xrL ⟨caps, cA, ck, flows, fA, fk⟩ T flows.length, (xrL_len _ _ _).symm, xrL_len _ _ _, HRW.out, fun r hr => ?_, fun i x y hx hy => ?_⟩⟩, HR2⟩
              · unfold xrL at hr
                obtain ⟨i, hi, rfl⟩ := List.mem_map.1 hr
                exact (HSR.out i (List.mem_range.1 hi)).2.1
              · have hi : i < flows.length := by rw [← HRL.out]; exact (List.getElem?_eq_some_iff.1 hy).1
                unfold xrL at hx
                rw [List.getElem?_map, List.getElem?_range hi] at hx
                injection hx with hx
                obtain ⟨-, h2, h3⟩ := HSR.out i hi
                have hyo := HFI.out.ok y (List.mem_of_getElem? hy)
                rw [← hx]
                refine (cmpQ_val h2 hyo).2.2 ?_
                rw [h3]
                show val (rs.getD i rq0) = val y
                rw [List.getD_eq_getElem?_getD, hy]
                rfl
          case rest =>
            obtain ⟨A2, l2, k2, g2, rfl, rfl, HCQ, HR2⟩ := hcut
            clear HCS HR0 XR0 XRC
            go_upto_region 20 with fail
            go_cut [163] (fun s163 wx => s163 = .bool false ∧ Kept (WR w wx ⟨caps, cA, ck, flows, fA, fk⟩ rate gq rs))
            case first =>
              rcases HCQ.out with he | ⟨he, hg2, L, hl2, hLl, hrw, hLo, hcmp⟩
              · subst he
                go_wp2_with fail
                go_meet
                exact ⟨rfl, HR2⟩
              · subst he hg2
                have EQ := fun w h1 h2 => equal_c L rs A2 (some ⟨gq, 0, none⟩) k2 flows.length w h1 h2 (by rw [hLl, HRL.out]) (by omega) (fun r hr => okQ_R64 (hLo r hr)) (fun r hr => okQ_R64 (HFI.out.ok r hr)) hcmp
                rw [← hl2, HRL.out] at EQ
                have HRW := Kept.mk hrw
                clear hrw hLo hcmp hl2 hLl
                go_wp2_with (go_at_call 13; refine (EQ _ HRW.out HR2.out.rows).mono ?_; rintro e w3 ⟨rfl, hb3⟩; have HR3 := Kept.mk (HR2.out.new_ hb3); clear hb3)
                go_meet
                exact ⟨rfl, HR3⟩
            case rest =>
              obtain ⟨rfl, HR3⟩ := hcut
              clear HCQ HR2
              by_cases hnf : flows.length = 0
              · have hnb : ((flows.length : Int) == 0) = true := by rw [hnf]; rfl
                have hnb2 : (flows.length == 0) = true := by rw [hnf]; rfl
                have hno2 : flows = [] := List.eq_nil_of_length_eq_zero hnf
                go_wp2_with fail
                go_ret
                exact ⟨rfl, HR3.out.wa.blw⟩
              · have hnb : ((flows.length : Int) == 0) = false := beq_false_of_ne (by omega)
                have hnb2 : (flows.length == 0) = false := beq_false_of_ne hnf
                have VR := fun w => valid_c rate w HRT.out.1.1 HRT.out.1.2 HRT.out.2.1 HRT.out.2.2
                unfold rqv at VR
                have r0 := HR3.out.wa.y.cell 0 (v := .int .i64 rate.n) rfl
                have r1 := HR3.out.wa.y.cell 1 (v := .int .i64 rate.d) rfl
                have rl := HR3.out.wa.y.lt
                cases hro : okQ rate with
                | false =>
                  have HRO := Kept.mk hro
                  clear hro
                  go_wp2_with (go_at_call 22; refine (VR _).mono ?_; rintro e w4 ⟨rfl, hb4⟩; rw [HRO.out]; have HR4 := Kept.mk (HR3.out.new_ hb4); clear hb4)
                  go_ret
                  exact ⟨rfl, HR4.out.wa.blw⟩
                | true =>
                  have HRO := Kept.mk hro
                  clear hro
                  obtain ⟨k, hkk⟩ : ∃ k : Nat, y % (flows.length : Int) = k := ⟨(y % (flows.length : Int)).toNat, by have := Int.emod_nonneg y (show (flows.length : Int) ≠ 0 by omega); omega⟩
                  have hkf : k < flows.length := by have := Int.emod_lt_of_pos y (show (0 : Int) < flows.length by omega); omega
                  have hkm : y.tmod (flows.length : Int) = (k : Int) := by rw [Int.tmod_eq_emod_of_nonneg y1]; exact hkk
                  have hwy : IntKind.i64.wrap y = y := IntWalk.i64_in _ (by omega)
                  have hwk : IntKind.i64.wrap (k : Int) = (k : Int) := IntWalk.i64_in _ (by omega)
                  have hz1 : ¬ (flows.length : Int) = 0 := by omega
                  have CL := fun (W : World) (h : RowsAt W W.heap.size 2 ccell (some ⟨gq, 0, none⟩) rs) => cloneR_c (some ⟨gq, 0, none⟩) flows.length flows.length (rs.flatMap ccell) W W.heap.size (by have := h.rd; rwa [HRL.out] at this) (Nat.le_refl _) (ccell_one rs) (by omega)
                  go_upto_region 26 with (first | (go_at_call 22; refine (VR _).mono ?_; rintro e w4 ⟨rfl, hb4⟩; rw [HRO.out]; have HR4 := Kept.mk (HR3.out.new_ hb4); clear hb4 r0 r1 rl) | (go_at_call 10; refine (CL _ HR4.out.rows).mono ?_; rintro e w5 ⟨v5, rfl, ho5, hb5⟩; obtain ⟨A9, k9, rfl⟩ := own_slice ho5; have HO5 := Kept.mk ho5; have HR5 := Kept.mk (HR4.out.new_ hb5); have HG5 := Kept.mk HR4.out.rr.lt; clear ho5 hb5))
                  obtain ⟨g, cap1, hv1, hg1, hg2, hg3⟩ := own_spot HO5.out (by omega)
                  injection hv1 with q1 _ q2
                  subst q1 q2
                  obtain ⟨x, hx⟩ := get_some (show k < rs.length by rw [HRL.out]; exact hkf)
                  obtain ⟨c0, c1, -⟩ := (RowsAt.of_own HO5.out ccell_len (by omega) HRL.out.symm).rat hx
                  simp only [Nat.zero_add] at c0 c1
                  have f0 := hg3 (k * 2)
                  have f1 := hg3 (k * 2 + 1)
                  have r0 := HR5.out.wa.y.cell 0 (v := .int .i64 rate.n) rfl
                  have r1 := HR5.out.wa.y.cell 1 (v := .int .i64 rate.d) rfl
                  have rl := HR5.out.wa.y.lt
                  have HXK := Kept.mk hx
                  clear hg3 hx
                  go_upto_region 27 with fail
                  obtain ⟨W6, hW6, HR6⟩ : ∃ W', W' = (w5.setCell ⟨g, k * 2, none⟩ (.int .i64 rate.n)).setCell ⟨g, k * 2 + 1, none⟩ (.int .i64 rate.d) ∧ Kept (WR w W' ⟨caps, cA, ck, flows, fA, fk⟩ rate gq rs ∧ W'.ownsRow w4.heap.size 32 2 (.slice (some ⟨g, 0, none⟩) flows.length k9) flows.length ((rs.set k rate).flatMap ccell)) := by
                    have hg5 := HG5.out
                    have hlo := HR5.out.lo
                    have far : ∀ {q : Nat} {ty : TypeId} {cs : Array Value}, Blk w5 q ty cs → q ≠ g → Blk ((w5.setCell ⟨g, k * 2, none⟩ (.int .i64 rate.n)).setCell ⟨g, k * 2 + 1, none⟩ (.int .i64 rate.d)) q ty cs := fun hq h1 => (hq.far (by simpa using h1) _).far (by simpa using h1) _
                    exact ⟨_, rfl, ⟨⟨⟨far HR5.out.wa.x (by omega), far HR5.out.wa.y (by omega), (HR5.out.wa.blw.setCell (by simp only; omega) _).setCell (by simp only; omega) _⟩, far HR5.out.rr (by omega), hlo⟩, own_put2 HO5.out ccell_len (by rw [HRL.out]; exact hkf) rfl⟩⟩
                  rw [← hW6]
                  clear hW6 HR3 HR4 HR5 HO5 HG5 c0 c1 f0 f1 r0 r1 rl hg1 hg2 CL VR
                  have hx64 := okQ_R64 (HFI.out.ok x (List.mem_of_getElem? HXK.out))
                  have CM := fun w => cmp_c rate x w HRT.out.1 HRT.out.2 hx64.1 hx64.2
                  unfold rqv at CM
                  have hxd : rs.getD k rq0 = x := by rw [List.getD_eq_getElem?_getD, HXK.out]; rfl
                  have hoth : makeB ⟨caps, cA, ck, flows, fA, fk⟩ (rs.set k rate) = true → cmpQ rate x = 0 := fun hm => by have := other_no (n := ⟨caps, cA, ck, flows, fA, fk⟩) HVN.out HFI.out.ok HRL.out HFI.out.fair hkf HRO.out hm; rwa [hxd] at this
                  obtain ⟨z, hz⟩ : ∃ z, z = cmpQ rate x := ⟨_, rfl⟩
                  rw [← hz] at CM hoth
                  have HX1 : Kept (WR w (W6.drewN 1) ⟨caps, cA, ck, flows, fA, fk⟩ rate gq rs) := ⟨HR6.out.1.new_ (dN (Below.refl _ _) 1)⟩
                  have HO1 : Kept ((W6.drewN 1).ownsRow w4.heap.size 32 2 (.slice (some ⟨g, 0, none⟩) flows.length k9) flows.length ((rs.set k rate).flatMap ccell)) := ⟨own_new HR6.out.2 (dN (Below.refl _ _) 1)⟩
                  have hyl := HR6.out.1.wa.y.lt
                  have hrl := HR6.out.1.rr.lt
                  clear hx64 hz hxd HR6
                  by_cases hz0 : z = 0
                  · have dz : (z == 0) = true := by rw [hz0]; rfl
                    clear hz0 hoth
                    refine wp_region_held_drew (S := fun w' => w'.cell? ⟨w.heap.size, 0, none⟩ = some (.slice cA caps.length ck) ∧ w'.cell? ⟨w.heap.size, 1, none⟩ = some (.slice fA flows.length fk) ∧ w'.cell? ⟨w.heap.size + 1, 0, none⟩ = some (.int .i64 rate.n) ∧ w'.cell? ⟨w.heap.size + 1, 1, none⟩ = some (.int .i64 rate.d) ∧ w'.cell? ⟨gq, k * 2, none⟩ = some (.int .i64 x.n) ∧ w'.cell? ⟨gq, k * 2 + 1, none⟩ = some (.int .i64 x.d)) (by kernel_rfl) (by (try dsimp only); (first | exact wr_keep HX3.out HXK.out | exact wr_keep HX2.out HXK.out | exact wr_keep HX1.out HXK.out)) (fun hHeld => ?_)
                    refine wpAnyH_take (i := 0) (v := ?_) rfl (by kernel_rfl) (by kernel_rfl) (by kernel_rfl) (fun _ _ _ h => h) (Or.inl ⟨by rfl, ?_⟩) (by assumption) ?_; rotate_left; (intro w hSw; (try dsimp only at hSw); go_simp; try (with_reducible rfl)); try simp only [Act.put, List.setIfInBounds_toArray, List.set_cons_zero, List.set_cons_succ, List.getElem_toArray, List.getElem_cons_succ, List.getElem_cons_zero]
                    refine wpAnyH_take (i := 1) (v := ?_) rfl (by kernel_rfl) (by kernel_rfl) (by kernel_rfl) (fun _ _ _ h => h) (Or.inl ⟨by rfl, ?_⟩) (by assumption) ?_; rotate_left; (intro w hSw; (try dsimp only at hSw); go_simp; try (with_reducible rfl)); try simp only [Act.put, List.setIfInBounds_toArray, List.set_cons_zero, List.set_cons_succ, List.getElem_toArray, List.getElem_cons_succ, List.getElem_cons_zero]
                    refine wpAnyH_take (i := 2) (v := ?_) rfl (by kernel_rfl) (by kernel_rfl) (by kernel_rfl) (fun _ _ _ h => h) (Or.inl ⟨by rfl, ?_⟩) (by assumption) ?_; rotate_left; (intro w hSw; (try dsimp only at hSw); go_simp; try (with_reducible rfl)); try simp only [Act.put, List.setIfInBounds_toArray, List.set_cons_zero, List.set_cons_succ, List.getElem_toArray, List.getElem_cons_succ, List.getElem_cons_zero]
                    refine wpAnyH_take (i := 3) (v := ?_) rfl (by kernel_rfl) (by kernel_rfl) (by kernel_rfl) (fun _ _ _ h => h) (Or.inl ⟨by rfl, ?_⟩) (by assumption) ?_; rotate_left; (intro w hSw; (try dsimp only at hSw); go_simp; try (with_reducible rfl)); try simp only [Act.put, List.setIfInBounds_toArray, List.set_cons_zero, List.set_cons_succ, List.getElem_toArray, List.getElem_cons_succ, List.getElem_cons_zero]
                    refine wpAnyH_take (i := 4) (v := ?_) rfl (by kernel_rfl) (by kernel_rfl) (by kernel_rfl) (fun _ _ _ h => h) (Or.inl ⟨by rfl, ?_⟩) (by assumption) ?_; rotate_left; (intro w hSw; (try dsimp only at hSw); go_simp; try (with_reducible rfl)); try simp only [Act.put, List.setIfInBounds_toArray, List.set_cons_zero, List.set_cons_succ, List.getElem_toArray, List.getElem_cons_succ, List.getElem_cons_zero]
                    refine wpAnyH_ready (rs := [5]) (by kernel_rfl) (by simp) ?_; refine AllReadyH.cons rfl (fun K hK => ?_) AllReadyH.nil; go_simp
                    refine (CM _).mono ?_; rintro e wq ⟨rfl, hbq⟩; have HX2 : Kept (WR w wq ⟨caps, cA, ck, flows, fA, fk⟩ rate gq rs) := ⟨HX1.out.new_ hbq⟩; have HO2 := Kept.mk (own_new HO1.out hbq); clear hbq
                    try go_wp2_with fail
                    refine hK.out _ _ (by (try dsimp only); (first | exact wr_keep HX3.out HXK.out | exact wr_keep HX2.out HXK.out | exact wr_keep HX1.out HXK.out)) (fun hHeld => ?_); clear hK K; try simp only [Act.put, List.setIfInBounds_toArray, List.set_cons_zero, List.set_cons_succ, List.getElem_toArray, List.getElem_cons_succ, List.getElem_cons_zero]
                    refine wpAnyH_take (i := 6) (v := ?_) rfl (by kernel_rfl) (by kernel_rfl) (by kernel_rfl) (fun _ _ _ h => h) (Or.inl ⟨by rfl, ?_⟩) (by assumption) ?_; rotate_left; (intro w hSw; (try dsimp only at hSw); go_simp; try (with_reducible rfl)); try simp only [Act.put, List.setIfInBounds_toArray, List.set_cons_zero, List.set_cons_succ, List.getElem_toArray, List.getElem_cons_succ, List.getElem_cons_zero]
                    refine wpAnyH_take (i := 7) (v := ?_) rfl (by kernel_rfl) (by kernel_rfl) (by kernel_rfl) (fun _ _ _ h => h) (Or.inl ⟨by rfl, ?_⟩) (by assumption) ?_; rotate_left; (intro w hSw; (try dsimp only at hSw); go_simp; try (with_reducible rfl)); try simp only [Act.put, List.setIfInBounds_toArray, List.set_cons_zero, List.set_cons_succ, List.getElem_toArray, List.getElem_cons_succ, List.getElem_cons_zero]
                    refine wpAnyH_take (i := 8) rfl (by kernel_rfl) (by kernel_rfl) (by kernel_rfl) (fun _ _ _ h => h) (Or.inr ⟨by rfl, rfl⟩) (by assumption) ?_; try simp only [Act.put, List.setIfInBounds_toArray, List.set_cons_zero, List.set_cons_succ, List.getElem_toArray, List.getElem_cons_succ, List.getElem_cons_zero]
                    refine wpAnyH_take (i := 9) rfl (by kernel_rfl) (by kernel_rfl) (by kernel_rfl) (fun _ _ _ h => h) (Or.inr ⟨by rfl, rfl⟩) (by assumption) ?_; try simp only [Act.put, List.setIfInBounds_toArray, List.set_cons_zero, List.set_cons_succ, List.getElem_toArray, List.getElem_cons_succ, List.getElem_cons_zero]
                    refine wpAnyH_take (i := 10) rfl (by kernel_rfl) (by kernel_rfl) (by kernel_rfl) (fun _ _ _ h => h) (Or.inr ⟨by rfl, rfl⟩) (by assumption) ?_; try simp only [Act.put, List.setIfInBounds_toArray, List.set_cons_zero, List.set_cons_succ, List.getElem_toArray, List.getElem_cons_succ, List.getElem_cons_zero]
                    refine wpAnyH_take (i := 11) rfl (by kernel_rfl) (by kernel_rfl) (by kernel_rfl) (fun _ _ _ h => h) (Or.inr ⟨by rfl, rfl⟩) (by assumption) ?_; try simp only [Act.put, List.setIfInBounds_toArray, List.set_cons_zero, List.set_cons_succ, List.getElem_toArray, List.getElem_cons_succ, List.getElem_cons_zero]
                    refine wpAnyH_take (i := 12) (v := ?_) rfl (by kernel_rfl) (by kernel_rfl) (by kernel_rfl) (fun _ _ _ h => h) (Or.inl ⟨by rfl, ?_⟩) (by assumption) ?_; rotate_left; (intro w hSw; (try dsimp only at hSw); go_simp; try (with_reducible rfl)); try simp only [Act.put, List.setIfInBounds_toArray, List.set_cons_zero, List.set_cons_succ, List.getElem_toArray, List.getElem_cons_succ, List.getElem_cons_zero]
                    refine wpAnyH_take (i := 13) (v := ?_) rfl (by kernel_rfl) (by kernel_rfl) (by kernel_rfl) (fun _ _ _ h => h) (Or.inl ⟨by rfl, ?_⟩) (by assumption) ?_; rotate_left; (intro w hSw; (try dsimp only at hSw); go_simp; try (with_reducible rfl)); try simp only [Act.put, List.setIfInBounds_toArray, List.set_cons_zero, List.set_cons_succ, List.getElem_toArray, List.getElem_cons_succ, List.getElem_cons_zero]
                    refine wpAnyH_done (by kernel_rfl) ?_ _
                    go_wp2_with fail
                    go_ret
                    exact ⟨rfl, HX2.out.wa.blw⟩
                  · have dz : (z == 0) = false := beq_false_of_ne hz0
                    have hmf : makeB ⟨caps, cA, ck, flows, fA, fk⟩ (rs.set k rate) = false := by
                      cases h : makeB ⟨caps, cA, ck, flows, fA, fk⟩ (rs.set k rate) with
                      | false => rfl
                      | true => exact absurd (hoth h) hz0
                    have FA := fun w h1 h2 => fair_c ⟨caps, cA, ck, flows, fA, fk⟩ (rs.set k rate) (some ⟨g, 0, none⟩) k9 w h1 HVN.out h2 (by rw [List.length_set]; exact HRL.out) (HFI.out.ok.set k HRO.out)
                    rw [hmf] at FA
                    unfold nval at FA
                    dsimp only at FA
                    clear hz0 hoth hmf
                    refine wp_region_held_drew (S := fun w' => w'.cell? ⟨w.heap.size, 0, none⟩ = some (.slice cA caps.length ck) ∧ w'.cell? ⟨w.heap.size, 1, none⟩ = some (.slice fA flows.length fk) ∧ w'.cell? ⟨w.heap.size + 1, 0, none⟩ = some (.int .i64 rate.n) ∧ w'.cell? ⟨w.heap.size + 1, 1, none⟩ = some (.int .i64 rate.d) ∧ w'.cell? ⟨gq, k * 2, none⟩ = some (.int .i64 x.n) ∧ w'.cell? ⟨gq, k * 2 + 1, none⟩ = some (.int .i64 x.d)) (by kernel_rfl) (by (try dsimp only); (first | exact wr_keep HX3.out HXK.out | exact wr_keep HX2.out HXK.out | exact wr_keep HX1.out HXK.out)) (fun hHeld => ?_)
                    refine wpAnyH_take (i := 0) (v := ?_) rfl (by kernel_rfl) (by kernel_rfl) (by kernel_rfl) (fun _ _ _ h => h) (Or.inl ⟨by rfl, ?_⟩) (by assumption) ?_; rotate_left; (intro w hSw; (try dsimp only at hSw); go_simp; try (with_reducible rfl)); try simp only [Act.put, List.setIfInBounds_toArray, List.set_cons_zero, List.set_cons_succ, List.getElem_toArray, List.getElem_cons_succ, List.getElem_cons_zero]
                    refine wpAnyH_take (i := 1) (v := ?_) rfl (by kernel_rfl) (by kernel_rfl) (by kernel_rfl) (fun _ _ _ h => h) (Or.inl ⟨by rfl, ?_⟩) (by assumption) ?_; rotate_left; (intro w hSw; (try dsimp only at hSw); go_simp; try (with_reducible rfl)); try simp only [Act.put, List.setIfInBounds_toArray, List.set_cons_zero, List.set_cons_succ, List.getElem_toArray, List.getElem_cons_succ, List.getElem_cons_zero]
                    refine wpAnyH_take (i := 2) (v := ?_) rfl (by kernel_rfl) (by kernel_rfl) (by kernel_rfl) (fun _ _ _ h => h) (Or.inl ⟨by rfl, ?_⟩) (by assumption) ?_; rotate_left; (intro w hSw; (try dsimp only at hSw); go_simp; try (with_reducible rfl)); try simp only [Act.put, List.setIfInBounds_toArray, List.set_cons_zero, List.set_cons_succ, List.getElem_toArray, List.getElem_cons_succ, List.getElem_cons_zero]
                    refine wpAnyH_take (i := 3) (v := ?_) rfl (by kernel_rfl) (by kernel_rfl) (by kernel_rfl) (fun _ _ _ h => h) (Or.inl ⟨by rfl, ?_⟩) (by assumption) ?_; rotate_left; (intro w hSw; (try dsimp only at hSw); go_simp; try (with_reducible rfl)); try simp only [Act.put, List.setIfInBounds_toArray, List.set_cons_zero, List.set_cons_succ, List.getElem_toArray, List.getElem_cons_succ, List.getElem_cons_zero]
                    refine wpAnyH_take (i := 4) (v := ?_) rfl (by kernel_rfl) (by kernel_rfl) (by kernel_rfl) (fun _ _ _ h => h) (Or.inl ⟨by rfl, ?_⟩) (by assumption) ?_; rotate_left; (intro w hSw; (try dsimp only at hSw); go_simp; try (with_reducible rfl)); try simp only [Act.put, List.setIfInBounds_toArray, List.set_cons_zero, List.set_cons_succ, List.getElem_toArray, List.getElem_cons_succ, List.getElem_cons_zero]
                    refine wpAnyH_ready (rs := [5]) (by kernel_rfl) (by simp) ?_; refine AllReadyH.cons rfl (fun K hK => ?_) AllReadyH.nil; go_simp
                    refine (CM _).mono ?_; rintro e wq ⟨rfl, hbq⟩; have HX2 : Kept (WR w wq ⟨caps, cA, ck, flows, fA, fk⟩ rate gq rs) := ⟨HX1.out.new_ hbq⟩; have HO2 := Kept.mk (own_new HO1.out hbq); clear hbq
                    try go_wp2_with fail
                    refine hK.out _ _ (by (try dsimp only); (first | exact wr_keep HX3.out HXK.out | exact wr_keep HX2.out HXK.out | exact wr_keep HX1.out HXK.out)) (fun hHeld => ?_); clear hK K; try simp only [Act.put, List.setIfInBounds_toArray, List.set_cons_zero, List.set_cons_succ, List.getElem_toArray, List.getElem_cons_succ, List.getElem_cons_zero]
                    refine wpAnyH_take (i := 6) (v := ?_) rfl (by kernel_rfl) (by kernel_rfl) (by kernel_rfl) (fun _ _ _ h => h) (Or.inl ⟨by rfl, ?_⟩) (by assumption) ?_; rotate_left; (intro w hSw; (try dsimp only at hSw); go_simp; try (with_reducible rfl)); try simp only [Act.put, List.setIfInBounds_toArray, List.set_cons_zero, List.set_cons_succ, List.getElem_toArray, List.getElem_cons_succ, List.getElem_cons_zero]
                    refine wpAnyH_take (i := 7) (v := ?_) rfl (by kernel_rfl) (by kernel_rfl) (by kernel_rfl) (fun _ _ _ h => h) (Or.inl ⟨by rfl, ?_⟩) (by assumption) ?_; rotate_left; (intro w hSw; (try dsimp only at hSw); go_simp; try (with_reducible rfl)); try simp only [Act.put, List.setIfInBounds_toArray, List.set_cons_zero, List.set_cons_succ, List.getElem_toArray, List.getElem_cons_succ, List.getElem_cons_zero]
                    refine wpAnyH_take (i := 8) (v := ?_) rfl (by kernel_rfl) (by kernel_rfl) (by kernel_rfl) (fun _ _ _ h => h) (Or.inl ⟨by rfl, ?_⟩) (by assumption) ?_; rotate_left; (intro w hSw; (try dsimp only at hSw); go_simp; try (with_reducible rfl)); try simp only [Act.put, List.setIfInBounds_toArray, List.set_cons_zero, List.set_cons_succ, List.getElem_toArray, List.getElem_cons_succ, List.getElem_cons_zero]
                    refine wpAnyH_take (i := 9) (v := ?_) rfl (by kernel_rfl) (by kernel_rfl) (by kernel_rfl) (fun _ _ _ h => h) (Or.inl ⟨by rfl, ?_⟩) (by assumption) ?_; rotate_left; (intro w hSw; (try dsimp only at hSw); go_simp; try (with_reducible rfl)); try simp only [Act.put, List.setIfInBounds_toArray, List.set_cons_zero, List.set_cons_succ, List.getElem_toArray, List.getElem_cons_succ, List.getElem_cons_zero]
                    refine wpAnyH_ready (rs := [10]) (by kernel_rfl) (by simp) ?_; refine AllReadyH.cons rfl (fun K hK => ?_) AllReadyH.nil; go_simp
                    refine (FA _ (HN.out.new_ HX2.out.wa.blw) (RowsAt.of_own HO2.out ccell_len (by omega) (by rw [List.length_set]; exact HRL.out.symm))).mono ?_; rintro e wq2 ⟨rfl, hbq⟩; have HX3 : Kept (WR w wq2 ⟨caps, cA, ck, flows, fA, fk⟩ rate gq rs) := ⟨HX2.out.new_ hbq⟩; clear hbq
                    try go_wp2_with fail
                    refine hK.out _ _ (by (try dsimp only); (first | exact wr_keep HX3.out HXK.out | exact wr_keep HX2.out HXK.out | exact wr_keep HX1.out HXK.out)) (fun hHeld => ?_); clear hK K; try simp only [Act.put, List.setIfInBounds_toArray, List.set_cons_zero, List.set_cons_succ, List.getElem_toArray, List.getElem_cons_succ, List.getElem_cons_zero]
                    refine wpAnyH_take (i := 11) (v := ?_) rfl (by kernel_rfl) (by kernel_rfl) (by kernel_rfl) (fun _ _ _ h => h) (Or.inl ⟨by rfl, ?_⟩) (by assumption) ?_; rotate_left; (intro w hSw; (try dsimp only at hSw); go_simp; try (with_reducible rfl)); try simp only [Act.put, List.setIfInBounds_toArray, List.set_cons_zero, List.set_cons_succ, List.getElem_toArray, List.getElem_cons_succ, List.getElem_cons_zero]
                    refine wpAnyH_take (i := 12) (v := ?_) rfl (by kernel_rfl) (by kernel_rfl) (by kernel_rfl) (fun _ _ _ h => h) (Or.inl ⟨by rfl, ?_⟩) (by assumption) ?_; rotate_left; (intro w hSw; (try dsimp only at hSw); go_simp; try (with_reducible rfl)); try simp only [Act.put, List.setIfInBounds_toArray, List.set_cons_zero, List.set_cons_succ, List.getElem_toArray, List.getElem_cons_succ, List.getElem_cons_zero]
                    refine wpAnyH_take (i := 13) (v := ?_) rfl (by kernel_rfl) (by kernel_rfl) (by kernel_rfl) (fun _ _ _ h => h) (Or.inl ⟨by rfl, ?_⟩) (by assumption) ?_; rotate_left; (intro w hSw; (try dsimp only at hSw); go_simp; try (with_reducible rfl)); try simp only [Act.put, List.setIfInBounds_toArray, List.set_cons_zero, List.set_cons_succ, List.getElem_toArray, List.getElem_cons_succ, List.getElem_cons_zero]
                    refine wpAnyH_done (by kernel_rfl) ?_ _
                    go_wp2_with fail
                    go_ret
                    exact ⟨rfl, HX3.out.wa.blw⟩
end Go.Proofs.Ytjalegdfofogcaa
