/- Rates: what water filling answers. -/
import Derived.Test.YtjalegdfofogcaaFilG
namespace Go.Proofs.Ytjalegdfofogcaa
set_option linter.unusedVariables false
set_option linter.unusedSimpArgs false
open Go.RowKit
structure RB (w W : World) (gq : Nat) (A : Option Addr) (lv : List PLev) (rs : List Rq) : Prop where
  rows : RowsAt W gq 3 vcell A lv
  sub : ∀ p ∈ lv, RowsAt W gq 1 icell p.A p.fl
  rr : RowBlk W gq 32 ccell rs
  blw : Below w.heap.size w W
  lo : w.heap.size < gq
section
variable {w W W' : World} {gq : Nat} {A : Option Addr} {lv : List PLev} {rs : List Rq}
theorem RB.new_ (h : RB w W gq A lv rs) (hb : Below W.heap.size W W') : RB w W' gq A lv rs :=
  ⟨h.rows.keep fun q hq => hb.cell (by have := h.rr.lt; omega), fun p hp => (h.sub p hp).keep fun q hq => hb.cell (by have := h.rr.lt; omega), h.rr.new_ hb, join h.blw hb, h.lo⟩
theorem RB.alloc (h : RB w W gq A lv rs) (o : Obj) : RB w (W.alloc o) gq A lv rs := h.new_ ((Below.refl _ _).alloc (Nat.le_refl _) o)
theorem RB.put (h : RB w W gq A lv rs) {k : Nat} (hk : k < rs.length) (R : Rq) : RB w ((W.setCell ⟨gq, k * 2, none⟩ (.int .i64 R.n)).setCell ⟨gq, k * 2 + 1, none⟩ (.int .i64 R.d)) gq A lv (rs.set k R) := by
  have hlo := h.lo
  have e : ∀ p : Addr, p.block < gq → ((W.setCell ⟨gq, k * 2, none⟩ (.int .i64 R.n)).setCell ⟨gq, k * 2 + 1, none⟩ (.int .i64 R.d)).cell? p = W.cell? p := fun q hq => by
    rw [World.cell?_setCell_other _ _ _ _ (fun e => by subst e; simp only at hq; omega), World.cell?_setCell_other _ _ _ _ (fun e => by subst e; simp only at hq; omega)]
  exact ⟨h.rows.keep e, fun p hp => (h.sub p hp).keep e, h.rr.set2 ccell_len hk rfl, (h.blw.setCell (by simp only; omega) _).setCell (by simp only; omega) _, h.lo⟩
end
/-- The filling ends behind m levels. -/
def Fin (n : PNet) (m : Nat) : Prop := (∀ j, j < m → (itr n j).2.contains false = true) ∧ (itr n m).2.contains false = false
/-- What Rates answers. -/
def RatR (w : World) (n : PNet) (e : Ending) (w' : World) : Prop := ∃ (m gq : Nat), e = .returned (.tuple #[.slice (some ⟨gq, 0, none⟩) n.flows.length n.flows.length, .int .i64 0]) ∧ Fin n m ∧ RowBlk w' gq 32 ccell (itr n m).1 ∧ w.heap.size ≤ gq ∧ Below w.heap.size w w'
set_option maxRecDepth 100000 in
set_option maxHeartbeats 16000000 in
theorem rates_c (n : PNet) (w : World) (hn : NetAt w w.heap.size n) (hv : netOk n = true) (hok : NetOk n) : Calls Try.prog 7 #[nval n] w (RatR w n) := by
  have HN := Kept.mk hn
  have LV := fun w h => levels_c n w h hv hok
  have hf5 := hok.nf
  clear hn hv hok
  obtain ⟨caps, cA, ck, flows, fA, fk⟩ := n
  dsimp only at hf5
  unfold nval at LV ⊢
  dsimp only at LV ⊢
  have hmkR := fun w => run_make_flat (P := Try.prog) ccell_len (by omega) (⟨0, 0⟩ : Rq) 22 32 _ 16 Try.underlying22 infoR rfl flows.length (by omega) (by omega) w
  have HX0 := Kept.mk (Blk.new w 25 #[.slice cA caps.length ck, .slice fA flows.length fk])
  have HD0 : Kept (Below w.heap.size w (w.alloc (.cells #[.slice cA caps.length ck, .slice fA flows.length fk] 25))) := ⟨by go_grown⟩
  have HN0 := HN.out.new_ HD0.out
  have n0 := HX0.out.cell 0 (v := .slice cA caps.length ck) rfl
  have n1 := HX0.out.cell 1 (v := .slice fA flows.length fk) rfl
  go_enter Try.func7, Try.ntmps7
  go_upto_region 4 with (go_at_call 31; refine (LV _ HN0).mono ?_; rintro e w1 ⟨lv, A, kap, rfl, hrw, hkp, hsub, hlv, hpr, hen, hb1⟩; have HX1 := Kept.mk (HX0.out.new_ hb1); have HD1 := Kept.mk (join HD0.out hb1); have HRW := Kept.mk hrw; have HSB := Kept.mk hsub; have HLV := Kept.mk hlv; have HPR := Kept.mk hpr; have HEN := Kept.mk hen; have HKP := Kept.mk hkp; clear hb1 hrw hkp hsub hlv hpr hen)
  clear n0 n1 HN0
  have n1 := HX1.out.cell 1 (v := .slice fA flows.length fk) rfl
  have l1 := HX1.out.lt
  have hlvm : lv.length ≤ 9223372036854775807 := by have := HKP.out; unfold maxLen at this; omega
  go_upto_region 5 with fail
  obtain ⟨V, hV, HR⟩ : ∃ V, V = w1.alloc (.cells ((List.replicate flows.length (⟨0, 0⟩ : Rq)).flatMap ccell).toArray 32) ∧ Kept (RB w V w1.heap.size A lv (itr ⟨caps, cA, ck, flows, fA, fk⟩ 0).1) := ⟨_, rfl, ⟨HRW.out.keep fun q hq => World.cell?_alloc_lt w1 _ q hq, fun p hp => (HSB.out p hp).1.keep fun q hq => World.cell?_alloc_lt w1 _ q hq, Blk.new _ _ _, HD1.out.alloc HD1.out.size _, HX1.out.lt⟩⟩
  obtain ⟨gq, hgq⟩ : ∃ g, g = w1.heap.size := ⟨_, rfl⟩
  rw [← hV, ← hgq]
  rw [← hgq] at HR
  clear hV hgq HX1 HD1 HX0 HD0 n1 l1 hmkR HRW LV
  go_wp2_with fail
  go_loopw [25] (fun v wr => ∃ k : Nat, k ≤ lv.length ∧ v = .int .i64 k ∧ Kept (RB w wr gq A lv (itr ⟨caps, cA, ck, flows, fA, fk⟩ k).1)) (fun v _ => lv.length - (intOf v).toNat)
  case atStart => exact ⟨0, Nat.zero_le _, rfl, HR⟩
  case round =>
    clear HR
    obtain ⟨k, hk, rfl, HR⟩ := hrel
    by_cases hlt : k < lv.length
    · obtain ⟨p, bV, oV, hp, rfl, -, hbV, hcl⟩ := HR.out.rows.at_ hlt
      obtain ⟨pR, fl, pA, pk⟩ := p
      have c0 := hcl 0 _ rfl
      have c1 := hcl 1 _ rfl
      have c2 := hcl 2 _ rfl
      simp only [Nat.add_zero] at c0
      dsimp only at c0 c1 c2
      have hlo := HLV.out k _ hp
      dsimp only at hlo
      have HPM := Kept.mk (List.mem_of_getElem? hp)
      have HFE := Kept.mk hlo.2
      obtain ⟨rs, hrs⟩ : ∃ rs, rs = (itr ⟨caps, cA, ck, flows, fA, fk⟩ k).1 := ⟨_, rfl⟩
      have HIT : Kept ((itr ⟨caps, cA, ck, flows, fA, fk⟩ (k + 1)).1 = putR pR rs fl) := ⟨by rw [itr, stepS, hrs, hlo.1, hlo.2]⟩
      have HRL : Kept (rs.length = flows.length) := ⟨by rw [hrs]; exact (itr_len ⟨caps, cA, ck, flows, fA, fk⟩ k).1⟩
      have hfm : fl.length ≤ 5 := by rw [hlo.2]; exact Nat.le_trans (frzL_len _ _ _ _) hf5
      rw [← hrs] at HR
      clear hcl hp hlo hrs
      go_upto_region 8 with fail
      obtain ⟨V, hV, HL⟩ : ∃ V, V = wr.alloc (.cells #[.int .i64 pR.n, .int .i64 pR.d, .slice pA fl.length pk] 68) ∧ Kept (RB w V gq (some ⟨bV, oV, none⟩) lv (putR pR rs (fl.take 0)) ∧ Blk V wr.heap.size 68 #[.int .i64 pR.n, .int .i64 pR.d, .slice pA fl.length pk] ∧ gq < wr.heap.size) := ⟨_, rfl, ⟨HR.out.alloc _, Blk.new _ _ _, HR.out.rr.lt⟩⟩
      obtain ⟨b8, hb8⟩ : ∃ b, b = wr.heap.size := ⟨_, rfl⟩
      rw [← hV, ← hb8]
      rw [← hb8] at HL
      clear hV hb8 HR c0 c1 c2
      have q2 := HL.out.2.1.cell 2 (v := .slice pA fl.length pk) rfl
      have q3 := HL.out.2.1.lt
      go_wp2_with fail
      go_loopw [32] (fun v wr => ∃ j : Nat, j ≤ fl.length ∧ v = .int .i64 j ∧ Kept (RB w wr gq (some ⟨bV, oV, none⟩) lv (putR pR rs (fl.take j)) ∧ Blk wr b8 68 #[.int .i64 pR.n, .int .i64 pR.d, .slice pA fl.length pk] ∧ gq < b8)) (fun v _ => fl.length - (intOf v).toNat)
      case atStart => exact ⟨0, Nat.zero_le _, rfl, HL⟩
      case round =>
        clear HL q2 q3
        obtain ⟨j, hj, rfl, HL⟩ := hrel
        by_cases hlj : j < fl.length
        · obtain ⟨xi, bL, oL, hx, rfl, -, hbL, hcl⟩ := (HL.out.1.sub _ HPM.out).at_ hlj
          have c0 := hcl 0 (.int .i64 xi) rfl
          dsimp only at hx
          have hmem := List.mem_of_getElem? hx
          rw [HFE.out] at hmem
          obtain ⟨i, rfl, hi, -, -⟩ := frzL_mem.1 hmem
          simp only [Nat.add_zero, Nat.mul_one] at c0
          have HTK := Kept.mk (take_next hx)
          have hil : i < (putR pR rs (fl.take j)).length := by rw [putR_len, HRL.out]; exact hi
          obtain ⟨r, hr⟩ := get_some hil
          have r0 := HL.out.1.rr.cell ccell_len hr (j := 0) rfl
          have r1 := HL.out.1.rr.cell ccell_len hr (j := 1) rfl
          simp only [Nat.add_zero] at r0
          have q0 := HL.out.2.1.cell 0 (v := .int .i64 pR.n) rfl
          have q1 := HL.out.2.1.cell 1 (v := .int .i64 pR.d) rfl
          have rf0 := HL.out.1.rr.free (i * 2)
          have rf1 := HL.out.1.rr.free (i * 2 + 1)
          have rl := HL.out.1.rr.lt
          have hii : i < flows.length := hi
          have HIL := Kept.mk hil
          clear hcl hx hmem hr hil hi
          go_wp2_with fail
          go_roundw
          case rel => exact ⟨j + 1, by omega, by go_num, by rw [HTK.out, putR_snoc, Int.toNat_natCast]; exact ⟨HL.out.1.put HIL.out pR, (HL.out.2.1.far (by have := HL.out.2.2; simp only; omega) _).far (by have := HL.out.2.2; simp only; omega) _, HL.out.2.2⟩⟩
          case measure => simp [intOf]; omega
        · obtain rfl : j = fl.length := by omega
          rw [List.take_length] at HL
          go_wp2_with fail
          go_roundw
          case rel => exact ⟨k + 1, by omega, by go_num, by rw [HIT.out]; exact ⟨HL.out.1⟩⟩
          case measure => simp [intOf]; omega
    · obtain rfl : k = lv.length := by omega
      clear hlt
      go_wp2_with fail
      go_ret2
      exact ⟨lv.length, gq, rfl, ⟨HPR.out, HEN.out⟩, HR.out.rr, by have := HR.out.lo; omega, HR.out.blw⟩
end Go.Proofs.Ytjalegdfofogcaa
