/- The level of a link in a round of the exchange. exchange.Round. -/
import Derived.Test.YtjalegdfofogcaaExcB
import Derived.Test.YtjalegdfofogcaaLvlB
namespace Go.Proofs.Ytjalegdfofogcaa
set_option linter.unusedVariables false
set_option linter.unusedSimpArgs false
open Go.RowKit
/-- What Level answers, in one form. -/
theorem LevPost.out {w w' : World} {C : Rat} {lims : List Rq} {p : Nat} {e : Ending} (h : LevPost w C lims p e w') : ∃ (V : Rq) (b : Bool) (er : Int), e = .returned (.tuple #[.agg #[.int .i64 V.n, .int .i64 V.d], .bool b, .int .i64 er]) ∧ ((er = 10 ∧ b = false) ∨ (er = 0 ∧ b = false ∧ LevelNo C lims p) ∨ (er = 0 ∧ b = true ∧ ∃ v, V = cq v ∧ LevelOk C lims p v ∧ okQ V = true)) ∧ Below w.heap.size w w' := by
  obtain ⟨h1, h2⟩ := h
  rcases h1 with rfl | ⟨hno, rfl⟩ | ⟨v, hv, hok, rfl⟩
  · exact ⟨⟨0, 0⟩, false, 10, rfl, Or.inl ⟨rfl, rfl⟩, h2⟩
  · exact ⟨⟨0, 0⟩, false, 0, rfl, Or.inr (Or.inl ⟨rfl, rfl, hno⟩), h2⟩
  · exact ⟨cq v, true, 0, rfl, Or.inr (Or.inr ⟨rfl, rfl, v, rfl, hv, hok⟩), h2⟩
/-- What the closure answers. -/
def RndR (w : World) (n : PNet) (s : PSt) (l : Nat) (e : Ending) (w' : World) : Prop := ∃ (V : Rq) (b : Bool) (er : Int), e = .returned (.tuple #[.agg #[.int .i64 V.n, .int .i64 V.d], .bool b, .int .i64 er]) ∧ ((er = 10 ∧ b = false) ∨ (er = 0 ∧ b = false ∧ LnkR n s l none) ∨ (er = 0 ∧ b = true ∧ LnkR n s l (some (val V)) ∧ okQ V = true ∧ 0 ≤ V.n)) ∧ Below w.heap.size w w'
structure R1 (w W : World) (v : Value) (L : List Rq) : Prop where
  z : Blk W w.heap.size 32 #[.int .i64 0, .int .i64 0]
  own : W.ownsRow (w.heap.size + 1) 32 2 v L.length (L.flatMap ccell)
  blw : Below w.heap.size w W
  hs : w.heap.size + 1 ≤ W.heap.size
section
variable {w W W' : World} {v v' : Value} {L : List Rq}
theorem R1.new_ (h : R1 w W v L) (hb : Below W.heap.size W W') : R1 w W' v L := ⟨h.z.new_ hb, own_new h.own hb, join h.blw hb, Nat.le_trans h.hs hb.size⟩
theorem R1.grow {x : Rq} (h : R1 w W v L) (ho : W'.ownsRow (w.heap.size + 1) 32 2 v' (L.length + 1) (L.flatMap ccell ++ ccell x)) (hg : W.grownBy W' v.ownBlock) : R1 w W' v' (L ++ [x]) := by
  have hs := h.hs
  have hgs := hg.size
  have hne : ∀ q, q < w.heap.size + 1 → some q ≠ v.ownBlock := fun q hq e => by have := (h.own.lt q e.symm).1; omega
  exact ⟨h.z.grown hg (hne _ (by omega)), by rw [List.length_append, List.flatMap_append]; simpa using ho, h.blw.grown hg (by omega) (fun q e => by have := (h.own.lt q e).1; omega), by omega⟩
theorem R1.fin (h : R1 w W v L) (x y : Value) : ∃ W', W' = (W.setCell ⟨w.heap.size, 0, none⟩ x).setCell ⟨w.heap.size, 1, none⟩ y ∧ W'.cell? ⟨w.heap.size, 0, none⟩ = some x ∧ W'.cell? ⟨w.heap.size, 1, none⟩ = some y ∧ Below w.heap.size w W' := by
  have hb : Blk ((W.setCell ⟨w.heap.size, 0, none⟩ x).setCell ⟨w.heap.size, 1, none⟩ y) w.heap.size 32 #[x, y] := (h.z.set_ 0 x).to 1 y rfl
  exact ⟨_, rfl, hb.cell 0 rfl, hb.cell 1 rfl, (h.blw.setCell (by simp only; omega) _).setCell (by simp only; omega) _⟩
end
theorem cap_ok {n : PNet} (h : netOk n = true) {c : Rq} (hc : c ∈ n.caps) : capOk c = true := by
  unfold netOk at h
  rw [Bool.and_eq_true, Bool.and_eq_true, Bool.and_eq_true, List.all_eq_true] at h
  exact h.2.2.1 c hc
set_option maxRecDepth 100000 in
set_option maxHeartbeats 16000000 in
theorem round1_c (n : PNet) (s : PSt) (bN bS l : Nat) (w : World) (hn : NetAt w w.heap.size n) (hv : netOk n = true) (hf5 : n.flows.length ≤ 5) (hs : XAt w w.heap.size n.caps.length s) (hbN : Blk w bN 25 #[.slice n.cA n.caps.length n.ck, .slice n.fA n.flows.length n.fk]) (hbS : Blk w bS 54 #[.slice s.sA n.caps.length s.sk, .slice s.oA n.caps.length s.ok]) (hl : l < n.caps.length) :
    Calls Try.prog 61 #[.int .i64 (l : Int), .pointer (some ⟨bN, 0, none⟩), .pointer (some ⟨bS, 0, none⟩)] w (RndR w n s l) := by
  have HN := Kept.mk hn
  have HS := Kept.mk hs
  have HLF := Kept.mk (fun i (hi : i < n.flows.length) => lsF_lim (i := i) (l := l) (other := (l : Int)) (netOk_links hv) hs.num hi (flow_num hv hi).1 (flow_num hv hi).2 (fun l' _ => by omega))
  have HLC := Kept.mk (fun i (hi : i < n.flows.length) w h1 h2 => least_c n s i (l : Int) w h1 hv h2 hi)
  have HCO := Kept.mk (fun c hc => cap_ok hv (c := c) hc)
  have HBN := Kept.mk hbN
  have HBS := Kept.mk hbS
  have hls := hs.num.ls
  have hlo := hs.num.lo
  clear hn hv hs hbN hbS
  obtain ⟨caps, cA, ck, flows, fA, fk⟩ := n
  obtain ⟨sh, sA, sk, op, oA, ok⟩ := s
  dsimp only at hf5 hls hlo HS hl HBN HBS
  unfold nval sval rqv at HLC
  dsimp only at HLC
  rw [hls, hlo] at HLC
  clear hls hlo
  obtain ⟨R, hR⟩ : ∃ R, R = RndR w ⟨caps, cA, ck, flows, fA, fk⟩ ⟨sh, sA, sk, op, oA, ok⟩ l := ⟨_, rfl⟩
  rw [← hR]
  have HR := Kept.mk hR
  clear hR
  have HX0 : Kept (R1 w (w.alloc (.cells #[.int .i64 0, .int .i64 0] 32)) (.slice none 0 0) (limK ⟨caps, cA, ck, flows, fA, fk⟩ ⟨sh, sA, sk, op, oA, ok⟩ l 0)) := ⟨⟨Blk.new _ _ _, World.ownsRow_nil _ _ _ _, by go_grown, by simp⟩⟩
  go_enter Try.func61, Try.ntmps61
  go_upto_region 1 with fail
  obtain ⟨V, hV⟩ : ∃ V, V = w.alloc (.cells #[.int .i64 0, .int .i64 0] 32) := ⟨_, rfl⟩
  rw [← hV] at HX0 ⊢
  clear hV
  have n1 := (HBN.out.new_ HX0.out.blw).cell 1 (v := .slice fA flows.length fk) rfl
  have nl := (HBN.out.new_ HX0.out.blw).lt
  go_wp2_with fail
  go_loopw [7, 8, 16] (fun v7 v8 v wr => ∃ k : Nat, k ≤ flows.length ∧ v = .int .i64 k ∧ v8 = .int .i64 (freK ⟨caps, cA, ck, flows, fA, fk⟩ ⟨sh, sA, sk, op, oA, ok⟩ l k : Nat) ∧ Kept (R1 w wr v7 (limK ⟨caps, cA, ck, flows, fA, fk⟩ ⟨sh, sA, sk, op, oA, ok⟩ l k))) (fun _ _ v _ => flows.length - (intOf v).toNat)
  case atStart => exact ⟨0, Nat.zero_le _, rfl, rfl, HX0⟩
  case round =>
    clear HX0 n1 nl
    obtain ⟨k, hk, rfl, rfl, HX⟩ := hrel
    obtain ⟨fr, hfr⟩ : ∃ q, q = freK ⟨caps, cA, ck, flows, fA, fk⟩ ⟨sh, sA, sk, op, oA, ok⟩ l k := ⟨_, rfl⟩
    obtain ⟨L, hL⟩ : ∃ q, q = limK ⟨caps, cA, ck, flows, fA, fk⟩ ⟨sh, sA, sk, op, oA, ok⟩ l k := ⟨_, rfl⟩
    have hlf := lim_fre_le ⟨caps, cA, ck, flows, fA, fk⟩ ⟨sh, sA, sk, op, oA, ok⟩ l k
    rw [← hfr] at hlf
    rw [← hfr]
    rw [← hL] at HX hlf
    have HFR := Kept.mk hfr
    have HLL := Kept.mk hL
    clear hfr hL
    by_cases hlt : k < flows.length
    · obtain ⟨p, bF, oF, hp, rfl, -, hbF, ⟨c0, c1, c2, c3⟩, hfl⟩ := (HN.out.new_ HX.out.blw).flowAt hlt
      obtain ⟨ls, pA, kap, pb, pd⟩ := p
      dsimp only at c0 c1 c2 c3 hp
      have hus : usesL flows k l = ls.contains (l : Int) := uses_of hp
      have hlm : ls.length ≤ 9223372036854775807 := by have h1 := hfl.le; have h2 := hfl.mx; unfold maxLen at h2; dsimp only at h1 h2; omega
      have CO := fun w h => contains_c ls pA kap (l : Int) w h hlm
      have HFL : Kept (RowsAt w w.heap.size 1 icell pA ls) := ⟨(HN.out.fl _ (List.mem_of_getElem? hp)).rd⟩
      have hwr : IntKind.i64.wrap ((fr : Int) + 1) = ((fr + 1 : Nat) : Int) := IntWalk.i64_in _ (by omega)
      clear hp hfl
      go_upto_region 6 with fail
      obtain ⟨b10, hb10⟩ : ∃ b, b = wr.heap.size := ⟨_, rfl⟩
      obtain ⟨V, hV, HY⟩ : ∃ V, V = wr.alloc (.cells #[.slice pA ls.length kap, .bool pb, .int .i64 pd.n, .int .i64 pd.d] 37) ∧ Kept (R1 w V u7 L ∧ Blk V b10 37 #[.slice pA ls.length kap, .bool pb, .int .i64 pd.n, .int .i64 pd.d]) := ⟨_, rfl, ⟨HX.out.new_ ((Below.refl _ _).alloc (Nat.le_refl _) _), by rw [hb10]; exact Blk.new _ _ _⟩⟩
      rw [← hV, ← hb10]
      clear hV hb10 HX c0 c1 c2 c3 hbF
      have q0 := HY.out.2.cell 0 (v := .slice pA ls.length kap) rfl
      have ql := HY.out.2.lt
      have HRD := HFL.out.new_ HY.out.1.blw
      cases hcc : ls.contains (l : Int) with
      | false =>
        have HK := Kept.mk hcc
        have HN1 : Kept (limK ⟨caps, cA, ck, flows, some ⟨bF, oF, none⟩, fk⟩ ⟨sh, sA, sk, op, oA, ok⟩ l (k + 1) = L ∧ freK ⟨caps, cA, ck, flows, some ⟨bF, oF, none⟩, fk⟩ ⟨sh, sA, sk, op, oA, ok⟩ l (k + 1) = fr) := ⟨by rw [limK_succ, freK_succ]; dsimp only; rw [hus, hcc, Bool.false_and, Bool.false_and, ← HFR.out, ← HLL.out]; exact ⟨rfl, rfl⟩⟩
        clear hcc hus
        go_wp2_with (go_at_call 11; refine (CO _ HRD).mono ?_; rintro e wq ⟨rfl, rfl⟩; rw [HK.out])
        go_roundw
        case rel => exact ⟨k + 1, by omega, by go_num, by rw [HN1.out.2], by rw [HN1.out.1]; exact ⟨HY.out.1⟩⟩
        case measure => simp [intOf]; omega
      | true =>
        have HK := Kept.mk hcc
        obtain ⟨A, hA⟩ : ∃ a, a = lsF ⟨caps, cA, ck, flows, some ⟨bF, oF, none⟩, fk⟩ ⟨sh, sA, sk, op, oA, ok⟩ k (l : Int) := ⟨_, rfl⟩
        have HLCK := HLC.out k hlt
        rw [← hA] at HLCK
        obtain ⟨a1, a2⟩ := A
        dsimp only at HLCK
        have HN1 : Kept (limK ⟨caps, cA, ck, flows, some ⟨bF, oF, none⟩, fk⟩ ⟨sh, sA, sk, op, oA, ok⟩ l (k + 1) = (if a2 then L ++ [a1] else L) ∧ freK ⟨caps, cA, ck, flows, some ⟨bF, oF, none⟩, fk⟩ ⟨sh, sA, sk, op, oA, ok⟩ l (k + 1) = (if a2 then fr else fr + 1)) := ⟨by
          rw [limK_succ, freK_succ]
          dsimp only
          rw [hus, hcc, ← hA, ← HFR.out, ← HLL.out]
          cases a2 <;> exact ⟨rfl, rfl⟩⟩
        have n0 := (HBN.out.new_ HY.out.1.blw).cell 0 (v := .slice cA caps.length ck) rfl
        have n1 := (HBN.out.new_ HY.out.1.blw).cell 1 (v := .slice (some ⟨bF, oF, none⟩) flows.length fk) rfl
        have nl := (HBN.out.new_ HY.out.1.blw).lt
        have s0 := (HBS.out.new_ HY.out.1.blw).cell 0 (v := .slice sA caps.length sk) rfl
        have s1 := (HBS.out.new_ HY.out.1.blw).cell 1 (v := .slice oA caps.length ok) rfl
        have sl := (HBS.out.new_ HY.out.1.blw).lt
        have HNY := HN.out.new_ HY.out.1.blw
        have HSY := HS.out.new_ HY.out.1.blw
        clear hcc hus hA
        go_upto_region 8 with (first | (go_at_call 11; refine (CO _ HRD).mono ?_; rintro e wq ⟨rfl, rfl⟩; rw [HK.out]) | (go_at_call 50; refine (HLCK _ HNY HSY).mono ?_; rintro e w5 ⟨rfl, hb5⟩; have HY5 := Kept.mk (HY.out.1.new_ hb5); clear hb5))
        obtain ⟨b11, hb11⟩ : ∃ b, b = w5.heap.size := ⟨_, rfl⟩
        obtain ⟨U, hU, HU⟩ : ∃ U, U = w5.alloc (.cells #[.int .i64 a1.n, .int .i64 a1.d] 32) ∧ Kept (R1 w U u7 L ∧ Blk U b11 32 #[.int .i64 a1.n, .int .i64 a1.d]) := ⟨_, rfl, ⟨HY5.out.new_ ((Below.refl _ _).alloc (Nat.le_refl _) _), by rw [hb11]; exact Blk.new _ _ _⟩⟩
        rw [← hU, ← hb11]
        clear hU hb11 HY HY5 q0 ql HRD n0 n1 nl s0 s1 sl HNY HSY HLCK
        cases a2 with
        | false =>
          go_wp2_with fail
          go_roundw
          case rel => exact ⟨k + 1, by omega, by go_num, by rw [HN1.out.2]; rfl, by rw [HN1.out.1]; exact ⟨HU.out.1⟩⟩
          case measure => simp [intOf]; omega
        | true =>
          obtain ⟨i4, hi4, hz0, hz1, hz2⟩ := info_parts infoR
          have p0 := HU.out.2.cell 0 (v := .int .i64 a1.n) rfl
          have p1 := HU.out.2.cell 1 (v := .int .i64 a1.d) rfl
          have pl := HU.out.2.lt
          have HOA := Kept.mk (HU.out.1.new_ ((Below.refl U.heap.size U).alloc (Nat.le_refl _) (.cells #[.int .i64 a1.n, .int .i64 a1.d] 32)))
          have HRL := Kept.mk (reads_made U #[.int .i64 a1.n, .int .i64 a1.d] 32 2 1 rfl)
          have hsz := HU.out.1.hs
          go_wp2_with (at_builtin; refine wpList_append_any _ rfl _ _ _ rfl (w.heap.size + 1) 32 i4 _ 2 16 Try.underlying22 hi4 hz0 hz1 hz2 rfl (by omega) _ L.length _ rfl HOA.out.own _ _ 1 1 _ rfl HRL.out (fun u hu => by simp at hu; rcases hu with rfl | rfl <;> rfl) (by unfold maxLen; omega) (by omega) (by simp only [World.size_alloc]; omega) ?_; intro v' w9 ho hgw hat; have HX9 : Kept (R1 w w9 v' (L ++ [a1])) := ⟨HOA.out.grow ho hgw⟩; clear ho hgw hat)
          go_roundw
          case rel => exact ⟨k + 1, by omega, by go_num, by rw [HN1.out.2]; rfl, by rw [HN1.out.1]; exact HX9⟩
          case measure => simp [intOf]; omega
    · obtain rfl : k = flows.length := by omega
      clear hlt
      obtain ⟨c, bC, oC, hc, rfl, -, hbC, c0, c1, -⟩ := (HN.out.new_ HX.out.blw).capAt hl
      dsimp only at hc c0 c1
      have hcd : caps.getD l rq0 = c := by rw [List.getD_eq_getElem?_getD, hc]; rfl
      obtain ⟨A9, k9, rfl⟩ := own_slice HX.out.own
      have n0 := (HBN.out.new_ HX.out.blw).cell 0 (v := .slice (some ⟨bC, oC, none⟩) caps.length ck) rfl
      have nl := (HBN.out.new_ HX.out.blw).lt
      have LV := lvl_c c L A9 k9 fr wr (HCO.out c (List.mem_of_getElem? hc)) (RowsAt.of_own HX.out.own ccell_len (by omega) rfl) (by rw [HLL.out]; exact limK_all _ (fun i hi => (HLF.out i hi).1)) (by rw [HLL.out]; exact limK_all _ (fun i hi => (HLF.out i hi).2.1)) (by omega) (by omega)
      unfold rqv at LV
      have HLIM : Kept (∀ i, i < flows.length → LimP (anet ⟨caps, some ⟨bC, oC, none⟩, ck, flows, fA, fk⟩) (shO ⟨sh, sA, sk, op, oA, ok⟩) i l (limO ⟨caps, some ⟨bC, oC, none⟩, ck, flows, fA, fk⟩ ⟨sh, sA, sk, op, oA, ok⟩ l i)) := ⟨fun i hi => (HLF.out i hi).2.2⟩
      have HCD := Kept.mk hcd
      clear hc hcd
      go_upto_region 12 with fail
      go_wp2_with (go_at_call 62; refine LV.mono ?_; intro e w6 hL; obtain ⟨V, b, er, rfl, hcase, hb6⟩ := hL.out; have HCS := Kept.mk hcase; have HX6 := Kept.mk (HX.out.new_ hb6); clear hcase hb6 hL n0 nl c0 c1; have z0 := HX6.out.z.cell 0 (v := .int .i64 0) rfl; have z1 := HX6.out.z.cell 1 (v := .int .i64 0) rfl; have zf0 := HX6.out.z.free 0; have zf1 := HX6.out.z.free 1; have zl := HX6.out.z.lt)
      obtain ⟨W9, hW9, s0, s1, hb⟩ := HX6.out.fin (.int .i64 V.n) (.int .i64 V.d)
      rw [← hW9]
      clear hW9
      rw [HR.out]
      refine bodyPost_ret (v := .tuple #[.agg #[.int .i64 V.n, .int .i64 V.d], .bool b, .int .i64 er]) (by simp [results, Try.results61, go_sem, s0, s1]) rfl ⟨V, b, er, rfl, ?_, hb⟩
      rcases HCS.out with h1 | ⟨h1, h2, h3⟩ | ⟨h1, h2, v, h3, h4, h5⟩
      · exact Or.inl h1
      · refine Or.inr (Or.inl ⟨h1, h2, link_none (n := ⟨caps, some ⟨bC, oC, none⟩, ck, flows, fA, fk⟩) HLIM.out ?_⟩)
        dsimp only
        rw [HCD.out, ← HFR.out, ← HLL.out]
        exact h3
      · refine Or.inr (Or.inr ⟨h1, h2, ?_, h5, ?_⟩)
        · rw [h3, val_cq]
          refine link_some (n := ⟨caps, some ⟨bC, oC, none⟩, ck, flows, fA, fk⟩) HLIM.out ?_
          dsimp only
          rw [HCD.out, ← HFR.out, ← HLL.out]
          exact h4
        · rw [h3]
          show 0 ≤ v.num
          exact Rat.num_nonneg.2 h4.1
end Go.Proofs.Ytjalegdfofogcaa
namespace Go.Proofs.Ytjalegdfofogcaa
set_option linter.unusedVariables false
set_option linter.unusedSimpArgs false
open Go.RowKit
section
variable {α : Type} {w w' : World} {B n cap g : Nat} {e : TypeId} {f : α → List Value} {l : List α}
theorem flat_put2 (hf : ∀ x, (f x).length = 2) {k : Nat} (hk : k < l.length) {x : α} {a b : Value} (hx : f x = [a, b]) : ((l.flatMap f).set (k * 2) a).set (k * 2 + 1) b = (l.set k x).flatMap f := by
  apply List.ext_getElem?
  intro i
  rw [flat_set hf (by omega) hk, hx]
  simp only [List.getElem?_set, List.length_set, flat_len hf]
  by_cases e : i / 2 = k
  · have hm : i % 2 < 2 := Nat.mod_lt _ (by omega)
    have hi := Nat.div_add_mod i 2
    rw [if_pos e]
    rcases (by omega : i % 2 = 0 ∨ i % 2 = 1) with h0 | h0
    · rw [h0, if_neg (by omega), if_pos (by omega), if_pos (by omega)]; rfl
    · rw [h0, if_pos (by omega), if_pos (by omega)]; rfl
  · have : i / 2 * 2 ≤ i := Nat.div_mul_le_self i 2
    rw [if_neg e, if_neg (by omega), if_neg (by omega)]
theorem flat_put1 (hf : ∀ x, (f x).length = 1) {k : Nat} (hk : k < l.length) {x : α} {a : Value} (hx : f x = [a]) : (l.flatMap f).set k a = (l.set k x).flatMap f := by
  apply List.ext_getElem?
  intro i
  rw [flat_set hf (by omega) hk, hx, List.getElem?_set, flat_len hf, Nat.div_one, Nat.mod_one]
  by_cases e : i = k
  · subst e; simp [hk]
  · rw [if_neg (fun h => e h.symm), if_neg e]
theorem own_put2 (h : w.ownsRow B e 2 (.slice (some ⟨g, 0, none⟩) n cap) n (l.flatMap f)) (hf : ∀ x, (f x).length = 2) {k : Nat} (hk : k < l.length) {x : α} {a b : Value} (hx : f x = [a, b]) : ((w.setCell ⟨g, k * 2, none⟩ a).setCell ⟨g, k * 2 + 1, none⟩ b).ownsRow B e 2 (.slice (some ⟨g, 0, none⟩) n cap) n ((l.set k x).flatMap f) := by
  have := ((h.stored (k * 2) a).1.stored (k * 2 + 1) b).1
  rwa [flat_put2 hf hk hx] at this
theorem own_put1 (h : w.ownsRow B e 1 (.slice (some ⟨g, 0, none⟩) n cap) n (l.flatMap f)) (hf : ∀ x, (f x).length = 1) {k : Nat} (hk : k < l.length) {x : α} {a : Value} (hx : f x = [a]) : (w.setCell ⟨g, k, none⟩ a).ownsRow B e 1 (.slice (some ⟨g, 0, none⟩) n cap) n ((l.set k x).flatMap f) := by
  have := (h.stored k a).1
  rwa [flat_put1 hf hk hx] at this
theorem own_far {v : Value} {m sz : Nat} {xs : List Value} (h : w.ownsRow B e sz v m xs) {p : Addr} (hp : v.ownBlock ≠ some p.block) (u : Value) : (w.setCell p u).ownsRow B e sz v m xs :=
  own_move h fun q hq => Below.heap_setCell _ _ _ _ (fun e => hp (by rw [hq, e]))
theorem own_spot {v : Value} {sz m : Nat} {xs : List Value} (h : w.ownsRow B e sz v m xs) (hn : 0 < m) : ∃ g cap, v = .slice (some ⟨g, 0, none⟩) m cap ∧ B ≤ g ∧ g < w.heap.size ∧ (∀ j, w.frozen? ⟨g, j, none⟩ = false) := by
  rcases h.2 with ⟨h1, h2⟩ | ⟨g, cap, cur, h1, h2, h3, h4, h5, _⟩
  · omega
  · exact ⟨g, cap, h1, h2, Blk.lt (t := e) (cs := cur) h3, fun j => Blk.free (t := e) (cs := cur) h3 j⟩
end
/-- Round's boxes. -/
structure R0 (w W : World) (n : PNet) (s : PSt) : Prop where
  x : Blk W w.heap.size 25 #[.slice n.cA n.caps.length n.ck, .slice n.fA n.flows.length n.fk]
  y : Blk W (w.heap.size + 1) 54 #[.slice s.sA n.caps.length s.sk, .slice s.oA n.caps.length s.ok]
  z : Blk W (w.heap.size + 2) 54 #[.slice none 0 0, .slice none 0 0]
  blw : Below w.heap.size w W
theorem R0.new_ {w W W' : World} {n : PNet} {s : PSt} (h : R0 w W n s) (hb : Below W.heap.size W W') : R0 w W' n s := ⟨h.x.new_ hb, h.y.new_ hb, h.z.new_ hb, join h.blw hb⟩
theorem R0.start (w : World) (n : PNet) (s : PSt) : R0 w (((w.alloc (.cells #[.slice n.cA n.caps.length n.ck, .slice n.fA n.flows.length n.fk] 25)).alloc (.cells #[.slice s.sA n.caps.length s.sk, .slice s.oA n.caps.length s.ok] 54)).alloc (.cells #[.slice none 0 0, .slice none 0 0] 54)) n s := by
  have h1 := Blk.new (w.alloc (.cells #[.slice n.cA n.caps.length n.ck, .slice n.fA n.flows.length n.fk] 25)) 54 #[.slice s.sA n.caps.length s.sk, .slice s.oA n.caps.length s.ok]
  have h2 := Blk.new ((w.alloc (.cells #[.slice n.cA n.caps.length n.ck, .slice n.fA n.flows.length n.fk] 25)).alloc (.cells #[.slice s.sA n.caps.length s.sk, .slice s.oA n.caps.length s.ok] 54)) 54 #[.slice none 0 0, .slice none 0 0]
  rw [World.size_alloc] at h1
  rw [World.size_alloc, World.size_alloc] at h2
  exact ⟨((Blk.new _ _ _).alloc _).alloc _, h1.alloc _, h2, by go_grown⟩
/-- Round's memory: the boxes, the next state. -/
structure RO (w W : World) (n : PNet) (s : PSt) (b0 b7 : Nat) (t : PSt) : Prop where
  x : Blk W w.heap.size 25 #[.slice n.cA n.caps.length n.ck, .slice n.fA n.flows.length n.fk]
  y : Blk W (w.heap.size + 1) 54 #[.slice s.sA n.caps.length s.sk, .slice s.oA n.caps.length s.ok]
  z : Blk W (w.heap.size + 2) 54 #[.slice none 0 0, .slice none 0 0]
  b : Blk W b7 54 #[.slice t.sA n.caps.length t.sk, .slice t.oA n.caps.length t.ok]
  ow : XOw W b0 n.caps.length t
  blw : Below w.heap.size w W
  lo : w.heap.size + 2 < b0 ∧ w.heap.size + 2 < b7
section
variable {w W W' : World} {n : PNet} {s t : PSt} {b0 b7 : Nat}
theorem RO.new_ (h : RO w W n s b0 b7 t) (hb : Below W.heap.size W W') : RO w W' n s b0 b7 t := ⟨h.x.new_ hb, h.y.new_ hb, h.z.new_ hb, h.b.new_ hb, h.ow.new_ hb, join h.blw hb, h.lo⟩
theorem RO.fin (h : RO w W n s b0 b7 t) (u v : Value) : ∃ W', W' = (W.setCell ⟨w.heap.size + 2, 0, none⟩ u).setCell ⟨w.heap.size + 2, 1, none⟩ v ∧ W'.cell? ⟨w.heap.size + 2, 0, none⟩ = some u ∧ W'.cell? ⟨w.heap.size + 2, 1, none⟩ = some v ∧ Below w.heap.size w W' ∧ (∀ q, b0 ≤ q → W'.heap[q]? = W.heap[q]?) := by
  have hl := h.lo
  have hb : Blk ((W.setCell ⟨w.heap.size + 2, 0, none⟩ u).setCell ⟨w.heap.size + 2, 1, none⟩ v) (w.heap.size + 2) 54 #[u, v] := (h.z.set_ 0 u).to 1 v rfl
  exact ⟨_, rfl, hb.cell 0 rfl, hb.cell 1 rfl, (h.blw.setCell (by simp only; omega) _).setCell (by simp only; omega) _, fun q hq => (Below.heap_setCell _ _ _ _ (by simp only; omega)).trans (Below.heap_setCell _ _ _ _ (by simp only; omega))⟩
theorem RO.zc (h : RO w W n s b0 b7 t) : W.cell? ⟨w.heap.size + 2, 0, none⟩ = some (.slice none 0 0) ∧ W.cell? ⟨w.heap.size + 2, 1, none⟩ = some (.slice none 0 0) ∧ W.frozen? ⟨w.heap.size + 2, 0, none⟩ = false ∧ W.frozen? ⟨w.heap.size + 2, 1, none⟩ = false ∧ w.heap.size + 2 < W.heap.size := ⟨h.z.cell 0 rfl, h.z.cell 1 rfl, h.z.free 0, h.z.free 1, h.z.lt⟩
/-- A share is set. -/
theorem RO.put {sh : List Rq} {op : List Bool} {g g' sk ok k : Nat} (h : RO w W n s b0 b7 ⟨sh, some ⟨g, 0, none⟩, sk, op, some ⟨g', 0, none⟩, ok⟩) (hk : k < n.caps.length) {V : Rq} (hV : okQ V = true) (hV0 : 0 ≤ V.n) :
    RO w (((W.setCell ⟨g, k * 2, none⟩ (.int .i64 V.n)).setCell ⟨g, k * 2 + 1, none⟩ (.int .i64 V.d)).setCell ⟨g', k, none⟩ (.bool false)) n s b0 b7 ⟨sh.set k V, some ⟨g, 0, none⟩, sk, op.set k false, some ⟨g', 0, none⟩, ok⟩ := by
  have hl := h.lo
  have hso := h.ow.so
  have hoo := h.ow.oo
  have hls := h.ow.num.ls
  have hlo := h.ow.num.lo
  dsimp only at hso hoo hls hlo
  have hg := (hso.lt g rfl).1
  have hg' := (hoo.lt g' rfl).1
  have hgg : g ≠ g' := fun e => own_own_ne hso hoo (by decide) g rfl (by rw [e]; rfl)
  have hgb : g ≠ b7 := fun e => own_blk_ne hso h.b (by decide) (by rw [← e]; rfl)
  have hgb' : g' ≠ b7 := fun e => own_blk_ne hoo h.b (by decide) (by rw [← e]; rfl)
  have far : ∀ {q : Nat} {t : TypeId} {cs : Array Value}, Blk W q t cs → q ≠ g → q ≠ g' → Blk (((W.setCell ⟨g, k * 2, none⟩ (.int .i64 V.n)).setCell ⟨g, k * 2 + 1, none⟩ (.int .i64 V.d)).setCell ⟨g', k, none⟩ (.bool false)) q t cs := fun hq h1 h2 => ((hq.far (by simpa using h1) _).far (by simpa using h1) _).far (by simpa using h2) _
  refine ⟨far h.x (by omega) (by omega), far h.y (by omega) (by omega), far h.z (by omega) (by omega), far h.b (fun e => hgb e.symm) (fun e => hgb' e.symm), ⟨?_, ?_, ⟨by rw [List.length_set]; exact hls, by rw [List.length_set]; exact hlo, h.ow.num.ok.set k hV, fun r hr => ?_⟩⟩, ((h.blw.setCell (by simp only; omega) _).setCell (by simp only; omega) _).setCell (by simp only; omega) _, hl⟩
  · dsimp only
    rw [List.length_set]
    exact own_far (own_put2 hso ccell_len (by omega) rfl) (fun e => by injection e with e; exact hgg e) _
  · dsimp only
    rw [List.length_set]
    exact own_put1 (own_far (own_far hoo (fun e => by injection e with e; exact hgg e.symm) _) (fun e => by injection e with e; exact hgg e.symm) _) boolc_len (by omega) rfl
  · rcases List.mem_or_eq_of_mem_set hr with h1 | h1
    · exact h.ow.num.nn r h1
    · rw [h1]; exact hV0
end
/-- The links behind k are as Start left them. -/
def Fresh (t : PSt) (k : Nat) : Prop := ∀ l, k ≤ l → l < t.op.length → t.op.getD l false = true
theorem shO_put {sh : List Rq} {op : List Bool} {A A' : Option Addr} {sk ok k l : Nat} {V : Rq} (hs : k < sh.length) (ho : k < op.length) : shO ⟨sh.set k V, A, sk, op.set k false, A', ok⟩ l = if k = l then some (val V) else shO ⟨sh, A, sk, op, A', ok⟩ l := by
  unfold shO
  dsimp only
  have e1 : (op.set k false).getD l false = if k = l then false else op.getD l false := by
    rw [List.getD_eq_getElem?_getD, List.getD_eq_getElem?_getD, List.getElem?_set]
    by_cases e : k = l
    · subst e; simp [ho]
    · rw [if_neg e, if_neg e]
  rw [e1, getD_set hs]
  by_cases e : k = l
  · rw [if_pos e, if_pos e, if_pos e]; rfl
  · rw [if_neg e, if_neg e, if_neg e]
/-- What Round answers. -/
def RoundR (w : World) (n : PNet) (s : PSt) (e : Ending) (w' : World) : Prop := ∃ (t : PSt) (m1 m2 : Nat) (er : Int), e = .returned (.tuple #[.agg #[.slice t.sA m1 t.sk, .slice t.oA m2 t.ok], .int .i64 er]) ∧ (er = 10 ∨ (er = 0 ∧ m1 = n.caps.length ∧ m2 = n.caps.length ∧ XOw w' w.heap.size n.caps.length t ∧ ∀ l, l < n.caps.length → LnkR n s l (shO t l))) ∧ Below w.heap.size w w'
set_option maxRecDepth 100000 in
set_option maxHeartbeats 16000000 in
theorem round_c (n : PNet) (s : PSt) (w : World) (hn : NetAt w w.heap.size n) (hv : netOk n = true) (hf5 : n.flows.length ≤ 5) (hs : XAt w w.heap.size n.caps.length s) : Calls Try.prog 48 #[nval n, sval s] w (RoundR w n s) := by
  have HN := Kept.mk hn
  have HS := Kept.mk hs
  have XC := fun w h1 h2 => xvalid_c n s w h1 hv h2
  have SC := fun w h1 => xstart_c n w h1 hv
  have HRC := Kept.mk (fun bN bS l w h1 h2 h3 h4 h5 => round1_c n s bN bS l w h1 hv hf5 h2 h3 h4 h5)
  have hc32 : n.caps.length ≤ 32 := by
    unfold netOk at hv
    rw [Bool.and_eq_true, decide_eq_true_eq] at hv
    exact hv.1
  have hls := hs.num.ls
  have hlo := hs.num.lo
  clear hn hv hs
  obtain ⟨caps, cA, ck, flows, fA, fk⟩ := n
  obtain ⟨sh, sA, sk, op, oA, ok⟩ := s
  dsimp only at hf5 hls hlo HS hc32
  unfold nval sval at XC ⊢
  unfold nval at SC
  dsimp only at XC SC ⊢
  rw [hls, hlo] at XC ⊢
  clear hls hlo
  obtain ⟨R, hR⟩ : ∃ R, R = RoundR w ⟨caps, cA, ck, flows, fA, fk⟩ ⟨sh, sA, sk, op, oA, ok⟩ := ⟨_, rfl⟩
  rw [← hR]
  have HR := Kept.mk hR
  clear hR
  have HX0 := Kept.mk (R0.start w ⟨caps, cA, ck, flows, fA, fk⟩ ⟨sh, sA, sk, op, oA, ok⟩)
  go_enter Try.func48, Try.ntmps48
  go_upto_region 1 with fail
  obtain ⟨V, hV, HX⟩ : ∃ V, V = ((w.alloc (.cells #[.slice cA caps.length ck, .slice fA flows.length fk] 25)).alloc (.cells #[.slice sA caps.length sk, .slice oA caps.length ok] 54)).alloc (.cells #[.slice none 0 0, .slice none 0 0] 54) ∧ Kept (R0 w V ⟨caps, cA, ck, flows, fA, fk⟩ ⟨sh, sA, sk, op, oA, ok⟩) := ⟨_, rfl, HX0⟩
  rw [← hV]
  clear hV HX0
  have n0 := HX.out.x.cell 0 (v := .slice cA caps.length ck) rfl
  have n1 := HX.out.x.cell 1 (v := .slice fA flows.length fk) rfl
  have nl := HX.out.x.lt
  have s0 := HX.out.y.cell 0 (v := .slice sA caps.length sk) rfl
  have s1 := HX.out.y.cell 1 (v := .slice oA caps.length ok) rfl
  have sl := HX.out.y.lt
  have HN0 := HN.out.new_ HX.out.blw
  have HS0 := HS.out.new_ HX.out.blw
  go_upto_region 3 with (go_at_call 46; refine (XC _ HN0 HS0).mono ?_; rintro e w1 ⟨rfl, hb1⟩; have HX1 := Kept.mk (HX.out.new_ hb1); clear hb1 n0 n1 nl s0 s1 sl)
  have n0 := HX1.out.x.cell 0 (v := .slice cA caps.length ck) rfl
  have n1 := HX1.out.x.cell 1 (v := .slice fA flows.length fk) rfl
  have nl := HX1.out.x.lt
  have HN1 := HN.out.new_ HX1.out.blw
  go_upto_region 5 with (go_at_call 21; refine (SC _ HN1).mono ?_; intro e w2 hst; obtain ⟨A, ka, A', kb, rfl, how, hb2⟩ := hst; have HX2 := Kept.mk (HX1.out.new_ hb2); have HOW := Kept.mk how; have HSZ := Kept.mk (And.intro HX1.out.z.lt hb2.size); clear hb2 how n0 n1 nl)
  obtain ⟨b7, hb7⟩ : ∃ b, b = w2.heap.size := ⟨_, rfl⟩
  obtain ⟨b0, hb0⟩ : ∃ b, b = w1.heap.size := ⟨_, rfl⟩
  obtain ⟨V, hV, HV⟩ : ∃ V, V = w2.alloc (.cells #[.slice A caps.length ka, .slice A' caps.length kb] 54) ∧ Kept (RO w V ⟨caps, cA, ck, flows, fA, fk⟩ ⟨sh, sA, sk, op, oA, ok⟩ b0 b7 (startS caps.length A ka A' kb)) := ⟨_, rfl, ⟨⟨HX2.out.x.alloc _, HX2.out.y.alloc _, HX2.out.z.alloc _, by rw [hb7]; exact Blk.new _ _ _, by rw [hb0]; exact HOW.out.new_ ((Below.refl _ _).alloc (Nat.le_refl _) _), HX2.out.blw.alloc HX2.out.blw.size _, by have := HSZ.out; omega⟩⟩⟩
  rw [← hV, ← hb7]
  clear hV hb7 HX HX1 HX2 HN0 HS0 HN1 HOW HSZ XC SC
  have HFR : Kept (Fresh (startS caps.length A ka A' kb) 0) := ⟨fun l _ hl => by
    unfold startS at hl ⊢
    dsimp only at hl ⊢
    rw [List.length_replicate] at hl
    rw [List.getD_eq_getElem?_getD, List.getElem?_replicate, if_pos hl]; rfl⟩
  obtain ⟨sh0, hsh0⟩ : ∃ x, x = List.replicate caps.length (⟨0, 1⟩ : Rq) := ⟨_, rfl⟩
  obtain ⟨op0, hop0⟩ : ∃ x, x = List.replicate caps.length true := ⟨_, rfl⟩
  unfold startS at HV HFR
  rw [← hsh0, ← hop0] at HV HFR
  clear hsh0 hop0
  have n0 := HV.out.x.cell 0 (v := .slice cA caps.length ck) rfl
  have nl := HV.out.x.lt
  go_wp2_with fail
  go_loopw [23] (fun v wr => ∃ (k : Nat) (sh1 : List Rq) (op1 : List Bool), k ≤ caps.length ∧ v = .int .i64 k ∧ Kept (Fresh ⟨sh1, A, ka, op1, A', kb⟩ k ∧ (∀ l, l < k → LnkR ⟨caps, cA, ck, flows, fA, fk⟩ ⟨sh, sA, sk, op, oA, ok⟩ l (shO ⟨sh1, A, ka, op1, A', kb⟩ l))) ∧ Kept (RO w wr ⟨caps, cA, ck, flows, fA, fk⟩ ⟨sh, sA, sk, op, oA, ok⟩ b0 b7 ⟨sh1, A, ka, op1, A', kb⟩)) (fun v _ => caps.length - (intOf v).toNat)
  case atStart => exact ⟨0, sh0, op0, Nat.zero_le _, rfl, ⟨HFR.out, fun l hl => by omega⟩, HV⟩
  case round =>
    clear HV HFR n0 nl
    obtain ⟨k, sh1, op1, hk, rfl, HP, HX⟩ := hrel
    by_cases hlt : k < caps.length
    · have RC := HRC.out w.heap.size (w.heap.size + 1) k wr (HN.out.new_ HX.out.blw) (HS.out.new_ HX.out.blw) HX.out.x HX.out.y hlt
      have hls1 : sh1.length = caps.length := HX.out.ow.num.ls
      have hlo1 : op1.length = caps.length := HX.out.ow.num.lo
      have HLL := Kept.mk (And.intro hls1 hlo1)
      clear hls1 hlo1
      go_upto_region 9 with (go_at_call 61; refine RC.mono ?_; intro e w3 hrd; obtain ⟨V, b, er, rfl, hcase, hb3⟩ := hrd; have HCS := Kept.mk hcase; have HX3 := Kept.mk (HX.out.new_ hb3); clear hcase hb3)
      obtain ⟨b9, hb9⟩ : ∃ b, b = w3.heap.size := ⟨_, rfl⟩
      obtain ⟨U, hU, HU⟩ : ∃ U, U = w3.alloc (.cells #[.int .i64 V.n, .int .i64 V.d] 32) ∧ Kept (RO w U ⟨caps, cA, ck, flows, fA, fk⟩ ⟨sh, sA, sk, op, oA, ok⟩ b0 b7 ⟨sh1, A, ka, op1, A', kb⟩ ∧ Blk U b9 32 #[.int .i64 V.n, .int .i64 V.d]) := ⟨_, rfl, ⟨HX3.out.new_ ((Below.refl _ _).alloc (Nat.le_refl _) _), by rw [hb9]; exact Blk.new _ _ _⟩⟩
      have HB9 : Kept ((∀ q, (Value.slice A caps.length ka).ownBlock = some q → q < b9) ∧ (∀ q, (Value.slice A' caps.length kb).ownBlock = some q → q < b9)) := ⟨fun q hq => by rw [hb9]; have h := HX3.out.ow.so; dsimp only at h; rw [HLL.out.1] at h; exact (h.lt q hq).2, fun q hq => by rw [hb9]; have h := HX3.out.ow.oo; dsimp only at h; rw [HLL.out.2] at h; exact (h.lt q hq).2⟩
      rw [← hU, ← hb9]
      clear hU hb9 HX HX3 RC
      rcases HCS.out with ⟨rfl, rfl⟩ | ⟨rfl, rfl, hlk⟩ | ⟨rfl, rfl, hlk, hvo, hv0⟩
      · obtain ⟨z0, z1, zf0, zf1, zl⟩ := HU.out.1.zc
        go_wp2_with fail
        obtain ⟨W9, hW9, s0, s1, hb, -⟩ := HU.out.1.fin (.slice none 0 0) (.slice none 0 0)
        rw [← hW9]
        clear hW9
        rw [HR.out]
        exact bodyPost_ret (v := .tuple #[.agg #[.slice none 0 0, .slice none 0 0], .int .i64 10]) (by simp [results, Try.results48, go_sem, s0, s1]) rfl ⟨⟨[], none, 0, [], none, 0⟩, 0, 0, 10, rfl, Or.inl rfl, hb⟩
      · have hop : op1.getD k false = true := HP.out.1 k (Nat.le_refl _) (by rw [HLL.out.2]; exact hlt)
        have HP2 : Kept (Fresh ⟨sh1, A, ka, op1, A', kb⟩ (k + 1) ∧ (∀ l, l < k + 1 → LnkR ⟨caps, cA, ck, flows, fA, fk⟩ ⟨sh, sA, sk, op, oA, ok⟩ l (shO ⟨sh1, A, ka, op1, A', kb⟩ l))) := ⟨fun l h1 h2 => HP.out.1 l (by omega) h2, fun l hl => by
          by_cases e : l = k
          · subst e
            have : shO ⟨sh1, A, ka, op1, A', kb⟩ l = none := by unfold shO; dsimp only; rw [hop]; rfl
            rw [this]; exact hlk
          · exact HP.out.2 l (by omega)⟩
        clear hop hlk
        go_wp2_with fail
        go_roundw
        case rel => exact ⟨k + 1, sh1, op1, by omega, by go_num, HP2, ⟨HU.out.1⟩⟩
        case measure => simp [intOf]; omega
      · have HLK := Kept.mk hlk
        have HVO := Kept.mk (And.intro hvo hv0)
        have hso := HU.out.1.ow.so
        have hoo := HU.out.1.ow.oo
        dsimp only at hso hoo
        rw [HLL.out.1] at hso
        rw [HLL.out.2] at hoo
        obtain ⟨g, cap1, hv1, hg1, hg2, hg3⟩ := own_spot hso (by omega)
        obtain ⟨g', cap2, hv2, hg1', hg2', hg3'⟩ := own_spot hoo (by omega)
        injection hv1 with e1 _ e2
        injection hv2 with e3 _ e4
        subst e1 e2 e3 e4
        obtain ⟨x, hx⟩ := get_some (show k < sh1.length by rw [HLL.out.1]; exact hlt)
        obtain ⟨u, hu⟩ := get_some (show k < op1.length by rw [HLL.out.2]; exact hlt)
        obtain ⟨r0, r1, -⟩ := HU.out.1.ow.at.rs.rat hx
        obtain ⟨d0, -⟩ := HU.out.1.ow.at.ro.bat hu
        simp only [Nat.zero_add] at r0 r1 d0
        have f0 := hg3 (k * 2)
        have f1 := hg3 (k * 2 + 1)
        have f2 := hg3' k
        have v0 := HU.out.2.cell 0 (v := .int .i64 V.n) rfl
        have v1 := HU.out.2.cell 1 (v := .int .i64 V.d) rfl
        have vl := HU.out.2.lt
        have t0 := HU.out.1.b.cell 0 (v := .slice (some ⟨g, 0, none⟩) caps.length ka) rfl
        have t1 := HU.out.1.b.cell 1 (v := .slice (some ⟨g', 0, none⟩) caps.length kb) rfl
        have tl := HU.out.1.b.lt
        have hgg : ¬ g = g' := fun e => own_own_ne hso hoo (by decide) g rfl (by rw [e]; rfl)
        have hgg' : ¬ g' = g := fun e => hgg e.symm
        have hgb1 : ¬ g = b7 := fun e => own_blk_ne hso HU.out.1.b (by decide) (by rw [← e]; rfl)
        have hgb2 : ¬ g' = b7 := fun e => own_blk_ne hoo HU.out.1.b (by decide) (by rw [← e]; rfl)
        have hgb3 : ¬ b7 = g := fun e => hgb1 e.symm
        have hgb4 : ¬ b7 = g' := fun e => hgb2 e.symm
        have hg91 : ¬ g = b9 := by have := HB9.out.1 g rfl; omega
        have hg92 : ¬ g' = b9 := by have := HB9.out.2 g' rfl; omega
        have hg93 : ¬ b9 = g := fun e => hg91 e.symm
        have hg94 : ¬ b9 = g' := fun e => hg92 e.symm
        clear hso hoo hg1 hg3 hg1' hg3' hx hu hlk hvo hv0
        go_upto_region 12 with fail
        go_region
        obtain ⟨W8, hW8, HX8⟩ : ∃ W', W' = (((U.setCell ⟨g, k * 2, none⟩ (.int .i64 V.n)).setCell ⟨g, k * 2 + 1, none⟩ (.int .i64 V.d)).setCell ⟨g', k, none⟩ (.bool false)).drew ∧ Kept (RO w W' ⟨caps, cA, ck, flows, fA, fk⟩ ⟨sh, sA, sk, op, oA, ok⟩ b0 b7 ⟨sh1.set k V, some ⟨g, 0, none⟩, ka, op1.set k false, some ⟨g', 0, none⟩, kb⟩) := ⟨_, rfl, ⟨(HU.out.1.put hlt HVO.out.1 HVO.out.2).new_ (bdrew (Below.refl _ _))⟩⟩
        rw [← hW8]
        have HP2 : Kept (Fresh ⟨sh1.set k V, some ⟨g, 0, none⟩, ka, op1.set k false, some ⟨g', 0, none⟩, kb⟩ (k + 1) ∧ (∀ l, l < k + 1 → LnkR ⟨caps, cA, ck, flows, fA, fk⟩ ⟨sh, sA, sk, op, oA, ok⟩ l (shO ⟨sh1.set k V, some ⟨g, 0, none⟩, ka, op1.set k false, some ⟨g', 0, none⟩, kb⟩ l))) := ⟨fun l h1 h2 => by
            dsimp only at h2 ⊢
            rw [List.length_set] at h2
            rw [List.getD_eq_getElem?_getD, List.getElem?_set, if_neg (by omega), ← List.getD_eq_getElem?_getD]
            exact HP.out.1 l (by omega) h2, fun l hl => by
            rw [shO_put (by rw [HLL.out.1]; exact hlt) (by rw [HLL.out.2]; exact hlt)]
            by_cases e : k = l
            · subst e
              rw [if_pos rfl]; exact HLK.out
            · rw [if_neg e]; exact HP.out.2 l (by omega)⟩
        clear hW8 HU r0 r1 d0 f0 f1 f2 v0 v1 vl t0 t1 tl
        go_wp2_with fail
        go_roundw
        case rel => exact ⟨k + 1, sh1.set k V, op1.set k false, by omega, by go_num, HP2, HX8⟩
        case measure => simp [intOf]; omega
    · obtain rfl : k = caps.length := by omega
      clear hlt
      obtain ⟨z0, z1, zf0, zf1, zl⟩ := HX.out.zc
      have t0 := HX.out.b.cell 0 (v := .slice A caps.length ka) rfl
      have t1 := HX.out.b.cell 1 (v := .slice A' caps.length kb) rfl
      have tl := HX.out.b.lt
      go_wp2_with fail
      obtain ⟨W9, hW9, s0, s1, hb, hh⟩ := HX.out.fin (.slice A caps.length ka) (.slice A' caps.length kb)
      rw [← hW9]
      clear hW9
      rw [HR.out]
      refine bodyPost_ret (v := .tuple #[.agg #[.slice A caps.length ka, .slice A' caps.length kb], .int .i64 0]) (by simp [results, Try.results48, go_sem, s0, s1]) rfl ⟨⟨sh1, A, ka, op1, A', kb⟩, caps.length, caps.length, 0, rfl, Or.inr ⟨rfl, rfl, rfl, ?_, HP.out.2⟩, hb⟩
      have hl := HX.out.lo
      exact XOw.base (B := b0) ⟨own_move HX.out.ow.so fun q hq => hh q (HX.out.ow.so.lt q hq).1, own_move HX.out.ow.oo fun q hq => hh q (HX.out.ow.oo.lt q hq).1, HX.out.ow.num⟩ (by omega)
end Go.Proofs.Ytjalegdfofogcaa
