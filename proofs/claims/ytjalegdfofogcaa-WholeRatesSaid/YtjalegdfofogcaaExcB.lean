/- exchange.least: the least bound of a flow. -/
import Derived.Test.YtjalegdfofogcaaExcA
import Derived.BigQuiet
namespace Go.Proofs.Ytjalegdfofogcaa
set_option linter.unusedVariables false
set_option linter.unusedSimpArgs false
open Go.RowKit
/-- least's boxes. -/
structure LS (w W : World) (n : PNet) (s : PSt) : Prop where
  x : Blk W w.heap.size 25 #[.slice n.cA n.caps.length n.ck, .slice n.fA n.flows.length n.fk]
  y : Blk W (w.heap.size + 1) 54 #[.slice s.sA n.caps.length s.sk, .slice s.oA n.caps.length s.ok]
  z : Blk W (w.heap.size + 2) 32 #[.int .i64 0, .int .i64 0]
  blw : Below w.heap.size w W
structure LT (w W : World) (n : PNet) (s : PSt) (b10 : Nat) (F : Array Value) (b11 : Nat) (r : Rq) : Prop where
  st : LS w W n s
  f : Blk W b10 37 F
  r : Blk W b11 32 #[.int .i64 r.n, .int .i64 r.d]
  lo : w.heap.size + 2 < b10 ∧ b10 < b11
section
variable {w W W' : World} {n : PNet} {s : PSt} {b10 b11 : Nat} {F : Array Value} {r : Rq}
theorem LS.new_ (h : LS w W n s) (hb : Below W.heap.size W W') : LS w W' n s := ⟨h.x.new_ hb, h.y.new_ hb, h.z.new_ hb, join h.blw hb⟩
theorem LS.start (w : World) (n : PNet) (s : PSt) : LS w (((w.alloc (.cells #[.slice n.cA n.caps.length n.ck, .slice n.fA n.flows.length n.fk] 25)).alloc (.cells #[.slice s.sA n.caps.length s.sk, .slice s.oA n.caps.length s.ok] 54)).alloc (.cells #[.int .i64 0, .int .i64 0] 32)) n s := by
  have h1 := Blk.new (w.alloc (.cells #[.slice n.cA n.caps.length n.ck, .slice n.fA n.flows.length n.fk] 25)) 54 #[.slice s.sA n.caps.length s.sk, .slice s.oA n.caps.length s.ok]
  have h2 := Blk.new ((w.alloc (.cells #[.slice n.cA n.caps.length n.ck, .slice n.fA n.flows.length n.fk] 25)).alloc (.cells #[.slice s.sA n.caps.length s.sk, .slice s.oA n.caps.length s.ok] 54)) 32 #[.int .i64 0, .int .i64 0]
  rw [World.size_alloc] at h1
  rw [World.size_alloc, World.size_alloc] at h2
  exact ⟨((Blk.new _ _ _).alloc _).alloc _, h1.alloc _, h2, by go_grown⟩
theorem LT.new_ (h : LT w W n s b10 F b11 r) (hb : Below W.heap.size W W') : LT w W' n s b10 F b11 r := ⟨h.st.new_ hb, h.f.new_ hb, h.r.new_ hb, h.lo⟩
theorem LT.drewN (h : LT w W n s b10 F b11 r) (k : Nat) : LT w (W.drewN k) n s b10 F b11 r := h.new_ (dN (Below.refl _ _) k)
theorem LT.put (h : LT w W n s b10 F b11 r) (q : Rq) : LT w ((W.setCell ⟨b11, 0, none⟩ (.int .i64 q.n)).setCell ⟨b11, 1, none⟩ (.int .i64 q.d)) n s b10 F b11 q := by
  have hl := h.lo
  exact ⟨⟨(h.st.x.far (by simp only; omega) _).far (by simp only; omega) _, (h.st.y.far (by simp only; omega) _).far (by simp only; omega) _, (h.st.z.far (by simp only; omega) _).far (by simp only; omega) _, (h.st.blw.setCell (by simp only; omega) _).setCell (by simp only; omega) _⟩, (h.f.far (by simp only; omega) _).far (by simp only; omega) _, (h.r.set_ 0 _).to 1 _ rfl, hl⟩
theorem LT.fin (h : LT w W n s b10 F b11 r) (x y : Value) : ∃ W', W' = (W.setCell ⟨w.heap.size + 2, 0, none⟩ x).setCell ⟨w.heap.size + 2, 1, none⟩ y ∧ W'.cell? ⟨w.heap.size + 2, 0, none⟩ = some x ∧ W'.cell? ⟨w.heap.size + 2, 1, none⟩ = some y ∧ Below w.heap.size w W' := by
  have hb : Blk ((W.setCell ⟨w.heap.size + 2, 0, none⟩ x).setCell ⟨w.heap.size + 2, 1, none⟩ y) (w.heap.size + 2) 32 #[x, y] := (h.st.z.set_ 0 x).to 1 y rfl
  exact ⟨_, rfl, hb.cell 0 rfl, hb.cell 1 rfl, (h.st.blw.setCell (by simp only; omega) _).setCell (by simp only; omega) _⟩
theorem LT.zc (h : LT w W n s b10 F b11 r) : W.cell? ⟨w.heap.size + 2, 0, none⟩ = some (.int .i64 0) ∧ W.cell? ⟨w.heap.size + 2, 1, none⟩ = some (.int .i64 0) ∧ W.frozen? ⟨w.heap.size + 2, 0, none⟩ = false ∧ W.frozen? ⟨w.heap.size + 2, 1, none⟩ = false ∧ w.heap.size + 2 < W.heap.size := ⟨h.st.z.cell 0 rfl, h.st.z.cell 1 rfl, h.st.z.free 0, h.st.z.free 1, h.st.z.lt⟩
theorem LT.rc (h : LT w W n s b10 F b11 r) : W.cell? ⟨b11, 0, none⟩ = some (.int .i64 r.n) ∧ W.cell? ⟨b11, 1, none⟩ = some (.int .i64 r.d) ∧ W.frozen? ⟨b11, 0, none⟩ = false ∧ W.frozen? ⟨b11, 1, none⟩ = false ∧ b11 < W.heap.size := ⟨h.r.cell 0 rfl, h.r.cell 1 rfl, h.r.free 0, h.r.free 1, h.r.lt⟩
theorem lt_share {b o k : Nat} {q : Rq} {sk ok : Nat} {op : List Bool} {sh : List Rq} {oA : Option Addr} (h : LT w W n ⟨sh, some ⟨b, o, none⟩, sk, op, oA, ok⟩ b10 F b11 r) (hs : RowsAt w w.heap.size 2 ccell (some ⟨b, o, none⟩) sh) (hk : sh[k]? = some q) :
    W.cell? ⟨w.heap.size + 1, 0, none⟩ = some (.slice (some ⟨b, o, none⟩) n.caps.length sk) ∧ W.cell? ⟨b, o + k * 2, none⟩ = some (.int .i64 q.n) ∧ W.cell? ⟨b, o + k * 2 + 1, none⟩ = some (.int .i64 q.d) ∧ W.cell? ⟨b11, 0, none⟩ = some (.int .i64 r.n) ∧ W.cell? ⟨b11, 1, none⟩ = some (.int .i64 r.d) := by
  obtain ⟨r0, r1, -⟩ := (hs.new_ h.st.blw).rat hk
  exact ⟨h.st.y.cell 0 rfl, r0, r1, h.r.cell 0 rfl, h.r.cell 1 rfl⟩
end
theorem flow_num {n : PNet} (hv : netOk n = true) {i : Nat} (hi : i < n.flows.length) : okQ (flo n i).d = true ∧ 0 ≤ (flo n i).d.n := by
  have h := netOk_flow hv (flo_mem hi).2
  unfold flowOk at h
  rw [Bool.and_eq_true, Bool.and_eq_true, Bool.and_eq_true, Bool.and_eq_true, decide_eq_true_eq, decide_eq_true_eq] at h
  exact ⟨h.2.2.1, h.2.2.2.1⟩
set_option maxRecDepth 100000 in
set_option maxHeartbeats 16000000 in
theorem least_c (n : PNet) (s : PSt) (i : Nat) (other : Int) (w : World) (hn : NetAt w w.heap.size n) (hv : netOk n = true) (hs : XAt w w.heap.size n.caps.length s) (hi : i < n.flows.length) :
    Calls Try.prog 50 #[nval n, sval s, .int .i64 (i : Int), .int .i64 other] w fun e w' => e = .returned (.tuple #[rqv (lsF n s i other).1, .bool (lsF n s i other).2]) ∧ Below w.heap.size w w' := by
  have HN := Kept.mk hn
  have HS := Kept.mk hs
  have HLK := Kept.mk (netOk_links hv)
  have hsz : n.caps.length ≤ 32 ∧ n.flows.length ≤ 32 := by
    unfold netOk at hv
    rw [Bool.and_eq_true, Bool.and_eq_true, decide_eq_true_eq, decide_eq_true_eq] at hv
    exact ⟨hv.1, hv.2.1⟩
  obtain ⟨hc32, hf32⟩ := hsz
  have hdok := flow_num hv hi
  have HDO := Kept.mk hdok
  have hls := hs.num.ls
  have hlo := hs.num.lo
  clear hn hv hs hdok
  obtain ⟨caps, cA, ck, flows, fA, fk⟩ := n
  obtain ⟨sh, sA, sk, op, oA, ok⟩ := s
  dsimp only at hc32 hf32 hls hlo HS hi
  unfold nval sval
  dsimp only
  rw [hls, hlo]
  have HLS := Kept.mk (And.intro hls hlo)
  clear hls hlo
  obtain ⟨p, bF, oF, hp, rfl, -, hbF, ⟨c0, c1, c2, c3⟩, hfl⟩ := HN.out.flowAt hi
  obtain ⟨ls, pA, kap, pb, pd⟩ := p
  dsimp only at c0 c1 c2 c3 hp
  have HFO := Kept.mk (flo_of (n := ⟨caps, cA, ck, flows, some ⟨bF, oF, none⟩, fk⟩) hp)
  have HRG : Kept (∀ x ∈ ls, 0 ≤ x ∧ x < caps.length) := ⟨HLK.out.rg _ (List.mem_of_getElem? hp)⟩
  have hlm : ls.length ≤ 9223372036854775807 := by have h1 := hfl.le; have h2 := hfl.mx; unfold maxLen at h2; dsimp only at h1 h2; omega
  have HFL : Kept (RowsAt w w.heap.size 1 icell pA ls) := ⟨hfl.rd⟩
  obtain ⟨RS, hRS⟩ : ∃ x, x = lsF ⟨caps, cA, ck, flows, some ⟨bF, oF, none⟩, fk⟩ ⟨sh, sA, sk, op, oA, ok⟩ i other := ⟨_, rfl⟩
  rw [← hRS]
  have HRS := Kept.mk hRS
  have HOKA : Kept (∀ k, k ≤ ls.length → okQ (lsK ⟨caps, cA, ck, flows, some ⟨bF, oF, none⟩, fk⟩ ⟨sh, sA, sk, op, oA, ok⟩ i other k).1 = true) := ⟨fun k hk => (lsK_inv HS.out.num HDO.out.1 HDO.out.2 k (by rw [HFO.out]; exact hk)).ok⟩
  have HS0 := Kept.mk (LS.start w ⟨caps, cA, ck, flows, some ⟨bF, oF, none⟩, fk⟩ ⟨sh, sA, sk, op, oA, ok⟩)
  dsimp only at HS0
  clear hp hfl hRS
  unfold rqv
  go_enter Try.func50, Try.ntmps50
  go_upto_region 1 with fail
  obtain ⟨V, hV⟩ : ∃ V, V = ((w.alloc (.cells #[.slice cA caps.length ck, .slice (some ⟨bF, oF, none⟩) flows.length fk] 25)).alloc (.cells #[.slice sA caps.length sk, .slice oA caps.length ok] 54)).alloc (.cells #[.int .i64 0, .int .i64 0] 32) := ⟨_, rfl⟩
  rw [← hV] at HS0 ⊢
  clear hV
  have n1 := HS0.out.x.cell 1 (v := .slice (some ⟨bF, oF, none⟩) flows.length fk) rfl
  have nl := HS0.out.x.lt
  obtain ⟨p', bF', oF', hp', hFe, -, hbF', ⟨c0', c1', c2', c3'⟩, -⟩ := (HN.out.new_ HS0.out.blw).flowAt hi
  dsimp only at hFe
  injection hFe with hFe
  injection hFe with hF1 hF2
  subst hF1 hF2
  have hpe : p' = ⟨ls, pA, kap, pb, pd⟩ := by have := HFO.out; rw [flo_of (n := ⟨caps, cA, ck, flows, some ⟨bF, oF, none⟩, fk⟩) hp'] at this; exact this
  subst hpe
  dsimp only at c0' c1' c2' c3'
  clear c0 c1 c2 c3 hp' hbF
  go_upto_region 2 with fail
  obtain ⟨b10, hb10⟩ : ∃ b, b = V.heap.size := ⟨_, rfl⟩
  obtain ⟨U, hU, HU⟩ : ∃ U, U = V.alloc (.cells #[.slice pA ls.length kap, .bool pb, .int .i64 pd.n, .int .i64 pd.d] 37) ∧ Kept (LS w U ⟨caps, cA, ck, flows, some ⟨bF, oF, none⟩, fk⟩ ⟨sh, sA, sk, op, oA, ok⟩ ∧ Blk U b10 37 #[.slice pA ls.length kap, .bool pb, .int .i64 pd.n, .int .i64 pd.d] ∧ w.heap.size + 2 < b10) := ⟨_, rfl, ⟨HS0.out.new_ ((Below.refl _ _).alloc (Nat.le_refl _) _), by rw [hb10]; exact Blk.new _ _ _, by rw [hb10]; exact HS0.out.z.lt⟩⟩
  rw [← hU, ← hb10]
  clear hU hb10 HS0 n1 nl c0' c1' c2' c3' hbF'
  have q1 := HU.out.2.1.cell 1 (v := .bool pb) rfl
  have q2 := HU.out.2.1.cell 2 (v := .int .i64 pd.n) rfl
  have q3 := HU.out.2.1.cell 3 (v := .int .i64 pd.d) rfl
  have ql := HU.out.2.1.lt
  go_region
  obtain ⟨b11, hb11⟩ : ∃ b, b = U.heap.size := ⟨_, rfl⟩
  obtain ⟨Z, hZ, HZ⟩ : ∃ Z, Z = (U.alloc (.cells #[.int .i64 pd.n, .int .i64 pd.d] 32)).drew ∧ Kept (LT w Z ⟨caps, cA, ck, flows, some ⟨bF, oF, none⟩, fk⟩ ⟨sh, sA, sk, op, oA, ok⟩ b10 #[.slice pA ls.length kap, .bool pb, .int .i64 pd.n, .int .i64 pd.d] b11 pd) := ⟨_, rfl, ⟨(HU.out.1.new_ ((Below.refl _ _).alloc (Nat.le_refl _) _)).new_ (bdrew (Below.refl _ _)), (HU.out.2.1.alloc _).drew, by rw [hb11]; exact (Blk.new _ _ _).drew, by rw [hb11]; exact ⟨HU.out.2.2, HU.out.2.1.lt⟩⟩⟩
  rw [← hZ, ← hb11]
  clear hZ hb11 HU q1 q2 q3 ql
  have q0 := HZ.out.f.cell 0 (v := .slice pA ls.length kap) rfl
  have ql := HZ.out.f.lt
  have HK0 : Kept (lsK ⟨caps, cA, ck, flows, some ⟨bF, oF, none⟩, fk⟩ ⟨sh, sA, sk, op, oA, ok⟩ i other 0 = (pd, pb)) := ⟨by unfold lsK; rw [HFO.out]; rfl⟩
  go_wp2_with fail
  go_loopw [12, 27] (fun v12 v wr => ∃ (k : Nat) (a : Rq × Bool), k ≤ ls.length ∧ v = .int .i64 k ∧ v12 = .bool a.2 ∧ Kept (a = lsK ⟨caps, cA, ck, flows, some ⟨bF, oF, none⟩, fk⟩ ⟨sh, sA, sk, op, oA, ok⟩ i other k) ∧ Kept (LT w wr ⟨caps, cA, ck, flows, some ⟨bF, oF, none⟩, fk⟩ ⟨sh, sA, sk, op, oA, ok⟩ b10 #[.slice pA ls.length kap, .bool pb, .int .i64 pd.n, .int .i64 pd.d] b11 a.1)) (fun _ v _ => ls.length - (intOf v).toNat)
  case atStart => exact ⟨0, (pd, pb), Nat.zero_le _, rfl, rfl, ⟨HK0.out.symm⟩, HZ⟩
  case round =>
    clear HZ q0 ql HK0
    obtain ⟨k, a, hk, rfl, rfl, HA, HX⟩ := hrel
    obtain ⟨a1, a2⟩ := a
    dsimp only at HX
    by_cases hlt : k < ls.length
    · obtain ⟨x, bL, oL, hx, rfl, -, hbL, hcl⟩ := (HFL.out.new_ HX.out.st.blw).at_ hlt
      have e0 := hcl 0 (.int .i64 x) rfl
      simp only [Nat.add_zero, Nat.mul_one] at e0
      obtain ⟨h0, h1⟩ := HRG.out x (List.mem_of_getElem? hx)
      obtain ⟨l, rfl⟩ : ∃ l : Nat, x = l := ⟨x.toNat, by omega⟩
      have hlc : l < caps.length := by omega
      have HNX : Kept (lsK ⟨caps, cA, ck, flows, some ⟨bF, oF, none⟩, fk⟩ ⟨sh, sA, sk, op, oA, ok⟩ i other (k + 1) = lsS ⟨sh, sA, sk, op, oA, ok⟩ other (a1, a2) (l : Int)) := ⟨by rw [HA.out]; exact lsK_next (by rw [HFO.out]; exact hx)⟩
      have ha1 : okQ a1 = true := by have := HOKA.out k hk; rw [← HA.out] at this; exact this
      have HAO := Kept.mk ha1
      clear hcl hx h0 h1 ha1
      cases hso : ((l : Int) == other) with
      | true =>
        have hle : (l : Int) = other := by simpa using hso
        have HN9 : Kept ((a1, a2) = lsK ⟨caps, cA, ck, flows, some ⟨bF, oF, none⟩, fk⟩ ⟨sh, sA, sk, op, oA, ok⟩ i other (k + 1)) := ⟨by rw [HNX.out]; unfold lsS; rw [if_pos (Or.inl hle)]⟩
        clear hle
        go_wp2_with fail
        go_roundw
        case rel => exact ⟨k + 1, (a1, a2), by omega, by go_num, rfl, HN9, HX⟩
        case measure => simp [intOf]; omega
      | false =>
        have hle : ¬ (l : Int) = other := by intro e; rw [e] at hso; simp at hso
        obtain ⟨u, bO, oO, hu, rfl, -, hbO, hcl2⟩ := (HS.out.new_ HX.out.st.blw).ro.at_ (show l < op.length by rw [HLS.out.2]; exact hlc)
        obtain ⟨q, bS, oS, hq, rfl, -, hbS, -⟩ := (HS.out.new_ HX.out.st.blw).rs.at_ (show l < sh.length by rw [HLS.out.1]; exact hlc)
        dsimp only at hu hq
        have d0 := hcl2 0 (.bool u) rfl
        simp only [Nat.add_zero, Nat.mul_one] at d0
        have y1 := HX.out.st.y.cell 1 (v := .slice (some ⟨bO, oO, none⟩) caps.length ok) rfl
        have yl := HX.out.st.y.lt
        have hgu : op.getD l false = u := by rw [List.getD_eq_getElem?_getD, hu]; rfl
        have hgq : sh.getD l rq0 = q := by rw [List.getD_eq_getElem?_getD, hq]; rfl
        have HSR : Kept (RowsAt w w.heap.size 2 ccell (some ⟨bS, oS, none⟩) sh) := ⟨HS.out.rs⟩
        have HQL := Kept.mk hq
        have hqo : okQ q = true := HS.out.num.ok q (List.mem_of_getElem? hq)
        cases u with
        | true =>
          have HN9 : Kept ((a1, a2) = lsK ⟨caps, cA, ck, flows, some ⟨bF, oF, none⟩, fk⟩ ⟨sh, some ⟨bS, oS, none⟩, sk, op, some ⟨bO, oO, none⟩, ok⟩ i other (k + 1)) := ⟨by rw [HNX.out]; unfold lsS; rw [if_pos (Or.inr (by rw [Int.toNat_natCast]; exact hgu))]⟩
          clear hle hcl2 hu hq hgu hgq hqo
          go_wp2_with fail
          go_roundw
          case rel => exact ⟨k + 1, (a1, a2), by omega, by go_num, rfl, HN9, HX⟩
          case measure => simp [intOf]; omega
        | false =>
          have HN8 : Kept (lsK ⟨caps, cA, ck, flows, some ⟨bF, oF, none⟩, fk⟩ ⟨sh, some ⟨bS, oS, none⟩, sk, op, some ⟨bO, oO, none⟩, ok⟩ i other (k + 1) = if a2 = false ∨ cmpQ q a1 < 0 then (q, true) else (a1, a2)) := ⟨by
            rw [HNX.out]
            unfold lsS
            rw [Int.toNat_natCast]
            dsimp only
            rw [hgu, hgq, if_neg (by rintro (e | e); exact hle e; cases e)]⟩
          have hq64 := okQ_R64 hqo
          have ha64 := okQ_R64 HAO.out
          have CM := fun w => cmp_c q a1 w hq64.1 hq64.2 ha64.1 ha64.2
          unfold rqv at CM
          clear hle hcl2 hu hq hgu hgq hqo hq64 ha64
          have HX0 := HX
          cases a2 with
          | false =>
            have HN9 : Kept ((q, true) = lsK ⟨caps, cA, ck, flows, some ⟨bF, oF, none⟩, fk⟩ ⟨sh, some ⟨bS, oS, none⟩, sk, op, some ⟨bO, oO, none⟩, ok⟩ i other (k + 1)) := ⟨by rw [HN8.out, if_pos (Or.inl rfl)]⟩
            clear CM
            go_upto_region 7 with fail
            go_quiet (fail)
            go_upto_region 8 with fail
            obtain ⟨W8, hW8, HX8⟩ : ∃ W8, W8 = wr.drewN nq ∧ Kept (LT w W8 ⟨caps, cA, ck, flows, some ⟨bF, oF, none⟩, fk⟩ ⟨sh, some ⟨bS, oS, none⟩, sk, op, some ⟨bO, oO, none⟩, ok⟩ b10 #[.slice (some ⟨bL, oL, none⟩) ls.length kap, .bool pb, .int .i64 pd.n, .int .i64 pd.d] b11 a1) := ⟨_, rfl, ⟨HX.out.drewN nq⟩⟩
            rw [← hW8]
            clear hW8 HX HX0 e0 d0 y1 yl
            obtain ⟨y0, c0, c1, -, -⟩ := lt_share HX8.out HSR.out HQL.out
            obtain ⟨r0, r1, rf0, rf1, rl⟩ := HX8.out.rc
            have yl := HX8.out.st.y.lt
            go_wp2_with fail
            go_roundw
            case rel => exact ⟨k + 1, (q, true), by omega, by go_num, rfl, HN9, ⟨HX8.out.put q⟩⟩
            case measure => simp [intOf]; omega
          | true =>
            obtain ⟨z, hz⟩ : ∃ z, z = cmpQ q a1 := ⟨_, rfl⟩
            rw [← hz] at CM
            have HZE := Kept.mk hz
            have HX1 : Kept (LT w (wr.drewN 1) ⟨caps, cA, ck, flows, some ⟨bF, oF, none⟩, fk⟩ ⟨sh, some ⟨bS, oS, none⟩, sk, op, some ⟨bO, oO, none⟩, ok⟩ b10 #[.slice (some ⟨bL, oL, none⟩) ls.length kap, .bool pb, .int .i64 pd.n, .int .i64 pd.d] b11 a1) := ⟨HX.out.drewN 1⟩
            clear hz
            go_upto_region 7 with fail
            have l11 := HX.out.r.lt
            clear HX HX0 e0 d0 y1
            by_cases hz0 : z < 0
            · have dz : decide (z < 0) = true := decide_eq_true hz0
              have HN9 : Kept ((q, true) = lsK ⟨caps, cA, ck, flows, some ⟨bF, oF, none⟩, fk⟩ ⟨sh, some ⟨bS, oS, none⟩, sk, op, some ⟨bO, oO, none⟩, ok⟩ i other (k + 1)) := ⟨by rw [HN8.out, if_pos (Or.inr (by rw [← HZE.out]; exact hz0))]⟩
              · 
                refine wp_region_held_drew (S := fun w' => w'.cell? ⟨w.heap.size + 1, 0, none⟩ = some (.slice (some ⟨bS, oS, none⟩) caps.length sk) ∧ w'.cell? ⟨bS, oS + l * 2, none⟩ = some (.int .i64 q.n) ∧ w'.cell? ⟨bS, oS + l * 2 + 1, none⟩ = some (.int .i64 q.d) ∧ w'.cell? ⟨b11, 0, none⟩ = some (.int .i64 a1.n) ∧ w'.cell? ⟨b11, 1, none⟩ = some (.int .i64 a1.d)) (by kernel_rfl) (by (try dsimp only); (first | exact lt_share HX2.out HSR.out HQL.out | exact lt_share HX1.out HSR.out HQL.out)) (fun hHeld => ?_)
                refine wpAnyH_take (i := 0) (v := ?_) rfl (by kernel_rfl) (by kernel_rfl) (by kernel_rfl) (fun _ _ _ h => h) (Or.inl ⟨by rfl, ?_⟩) (by assumption) ?_; rotate_left; (intro w hSw; (try dsimp only at hSw); go_simp; try (with_reducible rfl)); try simp only [Act.put, List.setIfInBounds_toArray, List.set_cons_zero, List.set_cons_succ, List.getElem_toArray, List.getElem_cons_succ, List.getElem_cons_zero]
                refine wpAnyH_take (i := 1) (v := ?_) rfl (by kernel_rfl) (by kernel_rfl) (by kernel_rfl) (fun _ _ _ h => h) (Or.inl ⟨by rfl, ?_⟩) (by assumption) ?_; rotate_left; (intro w hSw; (try dsimp only at hSw); go_simp; try (with_reducible rfl)); try simp only [Act.put, List.setIfInBounds_toArray, List.set_cons_zero, List.set_cons_succ, List.getElem_toArray, List.getElem_cons_succ, List.getElem_cons_zero]
                refine wpAnyH_take (i := 2) (v := ?_) rfl (by kernel_rfl) (by kernel_rfl) (by kernel_rfl) (fun _ _ _ h => h) (Or.inl ⟨by rfl, ?_⟩) (by assumption) ?_; rotate_left; (intro w hSw; (try dsimp only at hSw); go_simp; try (with_reducible rfl)); try simp only [Act.put, List.setIfInBounds_toArray, List.set_cons_zero, List.set_cons_succ, List.getElem_toArray, List.getElem_cons_succ, List.getElem_cons_zero]
                refine wpAnyH_take (i := 3) (v := ?_) rfl (by kernel_rfl) (by kernel_rfl) (by kernel_rfl) (fun _ _ _ h => h) (Or.inl ⟨by rfl, ?_⟩) (by assumption) ?_; rotate_left; (intro w hSw; (try dsimp only at hSw); go_simp; try (with_reducible rfl)); try simp only [Act.put, List.setIfInBounds_toArray, List.set_cons_zero, List.set_cons_succ, List.getElem_toArray, List.getElem_cons_succ, List.getElem_cons_zero]
                refine wpAnyH_take (i := 4) (v := ?_) rfl (by kernel_rfl) (by kernel_rfl) (by kernel_rfl) (fun _ _ _ h => h) (Or.inl ⟨by rfl, ?_⟩) (by assumption) ?_; rotate_left; (intro w hSw; (try dsimp only at hSw); go_simp; try (with_reducible rfl)); try simp only [Act.put, List.setIfInBounds_toArray, List.set_cons_zero, List.set_cons_succ, List.getElem_toArray, List.getElem_cons_succ, List.getElem_cons_zero]
                refine wpAnyH_take (i := 5) (v := ?_) rfl (by kernel_rfl) (by kernel_rfl) (by kernel_rfl) (fun _ _ _ h => h) (Or.inl ⟨by rfl, ?_⟩) (by assumption) ?_; rotate_left; (intro w hSw; (try dsimp only at hSw); go_simp; try (with_reducible rfl)); try simp only [Act.put, List.setIfInBounds_toArray, List.set_cons_zero, List.set_cons_succ, List.getElem_toArray, List.getElem_cons_succ, List.getElem_cons_zero]
                refine wpAnyH_take (i := 6) (v := ?_) rfl (by kernel_rfl) (by kernel_rfl) (by kernel_rfl) (fun _ _ _ h => h) (Or.inl ⟨by rfl, ?_⟩) (by assumption) ?_; rotate_left; (intro w hSw; (try dsimp only at hSw); go_simp; try (with_reducible rfl)); try simp only [Act.put, List.setIfInBounds_toArray, List.set_cons_zero, List.set_cons_succ, List.getElem_toArray, List.getElem_cons_succ, List.getElem_cons_zero]
                refine wpAnyH_take (i := 7) (v := ?_) rfl (by kernel_rfl) (by kernel_rfl) (by kernel_rfl) (fun _ _ _ h => h) (Or.inl ⟨by rfl, ?_⟩) (by assumption) ?_; rotate_left; (intro w hSw; (try dsimp only at hSw); go_simp; try (with_reducible rfl)); try simp only [Act.put, List.setIfInBounds_toArray, List.set_cons_zero, List.set_cons_succ, List.getElem_toArray, List.getElem_cons_succ, List.getElem_cons_zero]
                refine wpAnyH_take (i := 8) (v := ?_) rfl (by kernel_rfl) (by kernel_rfl) (by kernel_rfl) (fun _ _ _ h => h) (Or.inl ⟨by rfl, ?_⟩) (by assumption) ?_; rotate_left; (intro w hSw; (try dsimp only at hSw); go_simp; try (with_reducible rfl)); try simp only [Act.put, List.setIfInBounds_toArray, List.set_cons_zero, List.set_cons_succ, List.getElem_toArray, List.getElem_cons_succ, List.getElem_cons_zero]
                refine wpAnyH_ready (rs := [9]) (by kernel_rfl) (by simp) ?_; refine AllReadyH.cons rfl (fun K hK => ?_) AllReadyH.nil; go_simp
                refine (CM _).mono ?_; rintro e wq ⟨rfl, hbq⟩; have HX2 : Kept (LT w wq ⟨caps, cA, ck, flows, some ⟨bF, oF, none⟩, fk⟩ ⟨sh, some ⟨bS, oS, none⟩, sk, op, some ⟨bO, oO, none⟩, ok⟩ b10 #[.slice (some ⟨bL, oL, none⟩) ls.length kap, .bool pb, .int .i64 pd.n, .int .i64 pd.d] b11 a1) := ⟨HX1.out.new_ hbq⟩; clear hbq
                try go_wp2_with fail
                refine hK.out _ _ (by (try dsimp only); (first | exact lt_share HX2.out HSR.out HQL.out | exact lt_share HX1.out HSR.out HQL.out)) (fun hHeld => ?_); clear hK K; try simp only [Act.put, List.setIfInBounds_toArray, List.set_cons_zero, List.set_cons_succ, List.getElem_toArray, List.getElem_cons_succ, List.getElem_cons_zero]
                refine wpAnyH_take (i := 10) (v := ?_) rfl (by kernel_rfl) (by kernel_rfl) (by kernel_rfl) (fun _ _ _ h => h) (Or.inl ⟨by rfl, ?_⟩) (by assumption) ?_; rotate_left; (intro w hSw; (try dsimp only at hSw); go_simp; try (with_reducible rfl)); try simp only [Act.put, List.setIfInBounds_toArray, List.set_cons_zero, List.set_cons_succ, List.getElem_toArray, List.getElem_cons_succ, List.getElem_cons_zero]
                refine wpAnyH_take (i := 11) (v := ?_) rfl (by kernel_rfl) (by kernel_rfl) (by kernel_rfl) (fun _ _ _ h => h) (Or.inl ⟨by rfl, ?_⟩) (by assumption) ?_; rotate_left; (intro w hSw; (try dsimp only at hSw); go_simp; try (with_reducible rfl)); try simp only [Act.put, List.setIfInBounds_toArray, List.set_cons_zero, List.set_cons_succ, List.getElem_toArray, List.getElem_cons_succ, List.getElem_cons_zero]
                refine wpAnyH_done (by kernel_rfl) ?_ _
                go_upto_region 8 with fail
                obtain ⟨y0, c0, c1, -, -⟩ := lt_share HX2.out HSR.out HQL.out
                obtain ⟨r0, r1, rf0, rf1, rl⟩ := HX2.out.rc
                have yl := HX2.out.st.y.lt
                go_wp2_with fail
                go_roundw
                case rel => exact ⟨k + 1, (q, true), by omega, by go_num, rfl, HN9, ⟨HX2.out.put q⟩⟩
                case measure => simp [intOf]; omega
            · have dz : decide (z < 0) = false := decide_eq_false hz0
              have HN9 : Kept ((a1, true) = lsK ⟨caps, cA, ck, flows, some ⟨bF, oF, none⟩, fk⟩ ⟨sh, some ⟨bS, oS, none⟩, sk, op, some ⟨bO, oO, none⟩, ok⟩ i other (k + 1)) := ⟨by rw [HN8.out, if_neg (by rintro (e | e); cases e; rw [← HZE.out] at e; exact hz0 e)]⟩
              · 
                refine wp_region_held_drew (S := fun w' => w'.cell? ⟨w.heap.size + 1, 0, none⟩ = some (.slice (some ⟨bS, oS, none⟩) caps.length sk) ∧ w'.cell? ⟨bS, oS + l * 2, none⟩ = some (.int .i64 q.n) ∧ w'.cell? ⟨bS, oS + l * 2 + 1, none⟩ = some (.int .i64 q.d) ∧ w'.cell? ⟨b11, 0, none⟩ = some (.int .i64 a1.n) ∧ w'.cell? ⟨b11, 1, none⟩ = some (.int .i64 a1.d)) (by kernel_rfl) (by (try dsimp only); (first | exact lt_share HX2.out HSR.out HQL.out | exact lt_share HX1.out HSR.out HQL.out)) (fun hHeld => ?_)
                refine wpAnyH_take (i := 0) (v := ?_) rfl (by kernel_rfl) (by kernel_rfl) (by kernel_rfl) (fun _ _ _ h => h) (Or.inl ⟨by rfl, ?_⟩) (by assumption) ?_; rotate_left; (intro w hSw; (try dsimp only at hSw); go_simp; try (with_reducible rfl)); try simp only [Act.put, List.setIfInBounds_toArray, List.set_cons_zero, List.set_cons_succ, List.getElem_toArray, List.getElem_cons_succ, List.getElem_cons_zero]
                refine wpAnyH_take (i := 1) (v := ?_) rfl (by kernel_rfl) (by kernel_rfl) (by kernel_rfl) (fun _ _ _ h => h) (Or.inl ⟨by rfl, ?_⟩) (by assumption) ?_; rotate_left; (intro w hSw; (try dsimp only at hSw); go_simp; try (with_reducible rfl)); try simp only [Act.put, List.setIfInBounds_toArray, List.set_cons_zero, List.set_cons_succ, List.getElem_toArray, List.getElem_cons_succ, List.getElem_cons_zero]
                refine wpAnyH_take (i := 2) (v := ?_) rfl (by kernel_rfl) (by kernel_rfl) (by kernel_rfl) (fun _ _ _ h => h) (Or.inl ⟨by rfl, ?_⟩) (by assumption) ?_; rotate_left; (intro w hSw; (try dsimp only at hSw); go_simp; try (with_reducible rfl)); try simp only [Act.put, List.setIfInBounds_toArray, List.set_cons_zero, List.set_cons_succ, List.getElem_toArray, List.getElem_cons_succ, List.getElem_cons_zero]
                refine wpAnyH_take (i := 3) (v := ?_) rfl (by kernel_rfl) (by kernel_rfl) (by kernel_rfl) (fun _ _ _ h => h) (Or.inl ⟨by rfl, ?_⟩) (by assumption) ?_; rotate_left; (intro w hSw; (try dsimp only at hSw); go_simp; try (with_reducible rfl)); try simp only [Act.put, List.setIfInBounds_toArray, List.set_cons_zero, List.set_cons_succ, List.getElem_toArray, List.getElem_cons_succ, List.getElem_cons_zero]
                refine wpAnyH_take (i := 4) (v := ?_) rfl (by kernel_rfl) (by kernel_rfl) (by kernel_rfl) (fun _ _ _ h => h) (Or.inl ⟨by rfl, ?_⟩) (by assumption) ?_; rotate_left; (intro w hSw; (try dsimp only at hSw); go_simp; try (with_reducible rfl)); try simp only [Act.put, List.setIfInBounds_toArray, List.set_cons_zero, List.set_cons_succ, List.getElem_toArray, List.getElem_cons_succ, List.getElem_cons_zero]
                refine wpAnyH_take (i := 5) (v := ?_) rfl (by kernel_rfl) (by kernel_rfl) (by kernel_rfl) (fun _ _ _ h => h) (Or.inl ⟨by rfl, ?_⟩) (by assumption) ?_; rotate_left; (intro w hSw; (try dsimp only at hSw); go_simp; try (with_reducible rfl)); try simp only [Act.put, List.setIfInBounds_toArray, List.set_cons_zero, List.set_cons_succ, List.getElem_toArray, List.getElem_cons_succ, List.getElem_cons_zero]
                refine wpAnyH_take (i := 6) (v := ?_) rfl (by kernel_rfl) (by kernel_rfl) (by kernel_rfl) (fun _ _ _ h => h) (Or.inl ⟨by rfl, ?_⟩) (by assumption) ?_; rotate_left; (intro w hSw; (try dsimp only at hSw); go_simp; try (with_reducible rfl)); try simp only [Act.put, List.setIfInBounds_toArray, List.set_cons_zero, List.set_cons_succ, List.getElem_toArray, List.getElem_cons_succ, List.getElem_cons_zero]
                refine wpAnyH_take (i := 7) (v := ?_) rfl (by kernel_rfl) (by kernel_rfl) (by kernel_rfl) (fun _ _ _ h => h) (Or.inl ⟨by rfl, ?_⟩) (by assumption) ?_; rotate_left; (intro w hSw; (try dsimp only at hSw); go_simp; try (with_reducible rfl)); try simp only [Act.put, List.setIfInBounds_toArray, List.set_cons_zero, List.set_cons_succ, List.getElem_toArray, List.getElem_cons_succ, List.getElem_cons_zero]
                refine wpAnyH_take (i := 8) (v := ?_) rfl (by kernel_rfl) (by kernel_rfl) (by kernel_rfl) (fun _ _ _ h => h) (Or.inl ⟨by rfl, ?_⟩) (by assumption) ?_; rotate_left; (intro w hSw; (try dsimp only at hSw); go_simp; try (with_reducible rfl)); try simp only [Act.put, List.setIfInBounds_toArray, List.set_cons_zero, List.set_cons_succ, List.getElem_toArray, List.getElem_cons_succ, List.getElem_cons_zero]
                refine wpAnyH_ready (rs := [9]) (by kernel_rfl) (by simp) ?_; refine AllReadyH.cons rfl (fun K hK => ?_) AllReadyH.nil; go_simp
                refine (CM _).mono ?_; rintro e wq ⟨rfl, hbq⟩; have HX2 : Kept (LT w wq ⟨caps, cA, ck, flows, some ⟨bF, oF, none⟩, fk⟩ ⟨sh, some ⟨bS, oS, none⟩, sk, op, some ⟨bO, oO, none⟩, ok⟩ b10 #[.slice (some ⟨bL, oL, none⟩) ls.length kap, .bool pb, .int .i64 pd.n, .int .i64 pd.d] b11 a1) := ⟨HX1.out.new_ hbq⟩; clear hbq
                try go_wp2_with fail
                refine hK.out _ _ (by (try dsimp only); (first | exact lt_share HX2.out HSR.out HQL.out | exact lt_share HX1.out HSR.out HQL.out)) (fun hHeld => ?_); clear hK K; try simp only [Act.put, List.setIfInBounds_toArray, List.set_cons_zero, List.set_cons_succ, List.getElem_toArray, List.getElem_cons_succ, List.getElem_cons_zero]
                refine wpAnyH_take (i := 10) (v := ?_) rfl (by kernel_rfl) (by kernel_rfl) (by kernel_rfl) (fun _ _ _ h => h) (Or.inl ⟨by rfl, ?_⟩) (by assumption) ?_; rotate_left; (intro w hSw; (try dsimp only at hSw); go_simp; try (with_reducible rfl)); try simp only [Act.put, List.setIfInBounds_toArray, List.set_cons_zero, List.set_cons_succ, List.getElem_toArray, List.getElem_cons_succ, List.getElem_cons_zero]
                refine wpAnyH_take (i := 11) (v := ?_) rfl (by kernel_rfl) (by kernel_rfl) (by kernel_rfl) (fun _ _ _ h => h) (Or.inl ⟨by rfl, ?_⟩) (by assumption) ?_; rotate_left; (intro w hSw; (try dsimp only at hSw); go_simp; try (with_reducible rfl)); try simp only [Act.put, List.setIfInBounds_toArray, List.set_cons_zero, List.set_cons_succ, List.getElem_toArray, List.getElem_cons_succ, List.getElem_cons_zero]
                refine wpAnyH_done (by kernel_rfl) ?_ _
                go_wp2_with fail
                go_roundw
                case rel => exact ⟨k + 1, (a1, true), by omega, by go_num, rfl, HN9, HX2⟩
                case measure => simp [intOf]; omega
    · obtain rfl : k = ls.length := by omega
      clear hlt
      obtain ⟨r0, r1, rf0, rf1, rl⟩ := HX.out.rc
      obtain ⟨z0, z1, zf0, zf1, zl⟩ := HX.out.zc
      have HRE : Kept (RS = (if a1.n = 0 then ⟨0, 1⟩ else a1, a2)) := ⟨by rw [HRS.out]; unfold lsF; rw [HFO.out]; dsimp only; rw [← HA.out]⟩
      by_cases hn0 : a1.n = 0
      · have hnb : (a1.n == 0) = true := by rw [hn0]; rfl
        have HR1 : Kept (RS = (⟨0, 1⟩, a2)) := ⟨by rw [HRE.out, if_pos hn0]⟩
        clear hn0
        go_upto_region 12 with fail
        obtain ⟨V, hV, HV⟩ : ∃ V, V = (wr.setCell ⟨b11, 0, none⟩ (.int .i64 0)).setCell ⟨b11, 1, none⟩ (.int .i64 1) ∧ Kept (LT w V ⟨caps, cA, ck, flows, some ⟨bF, oF, none⟩, fk⟩ ⟨sh, sA, sk, op, oA, ok⟩ b10 #[.slice pA ls.length kap, .bool pb, .int .i64 pd.n, .int .i64 pd.d] b11 ⟨0, 1⟩) := ⟨_, rfl, ⟨HX.out.put ⟨0, 1⟩⟩⟩
        rw [← hV]
        clear hV HX r0 r1 rf0 rf1 rl z0 z1 zf0 zf1 zl
        obtain ⟨r0, r1, -, -, rl⟩ := HV.out.rc
        obtain ⟨z0, z1, zf0, zf1, zl⟩ := HV.out.zc
        go_wp2_with fail
        obtain ⟨W9, hW9, s0, s1, hb⟩ := HV.out.fin (.int .i64 0) (.int .i64 1)
        rw [← hW9]
        clear hW9
        rw [HR1.out]
        exact bodyPost_ret (v := .tuple #[.agg #[.int .i64 0, .int .i64 1], .bool a2]) (by simp [results, Try.results50, go_sem, s0, s1]) rfl ⟨rfl, hb⟩
      · have hnb : (a1.n == 0) = false := beq_false_of_ne hn0
        have HR1 : Kept (RS = (a1, a2)) := ⟨by rw [HRE.out, if_neg hn0]⟩
        go_wp2_with fail
        obtain ⟨W9, hW9, s0, s1, hb⟩ := HX.out.fin (.int .i64 a1.n) (.int .i64 a1.d)
        rw [← hW9]
        clear hW9
        rw [HR1.out]
        exact bodyPost_ret (v := .tuple #[.agg #[.int .i64 a1.n, .int .i64 a1.d], .bool a2]) (by simp [results, Try.results50, go_sem, s0, s1]) rfl ⟨rfl, hb⟩
end Go.Proofs.Ytjalegdfofogcaa
