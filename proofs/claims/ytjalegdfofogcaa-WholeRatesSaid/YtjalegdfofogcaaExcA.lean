/- The exchange: states in memory, Start, Valid. -/
import Derived.Test.YtjalegdfofogcaaLvlQ
import Derived.Test.YtjalegdfofogcaaLodZ
import Derived.Test.YtjalegdfofogcaaFilG
namespace Go.Proofs.Ytjalegdfofogcaa
set_option linter.unusedVariables false
set_option linter.unusedSimpArgs false
open Go.RowKit
/-- A state reads so. -/
structure XAt (w : World) (B nl : Nat) (s : PSt) : Prop where
  rs : RowsAt w B 2 ccell s.sA s.sh
  ro : RowsAt w B 1 boolc s.oA s.op
  num : StNum nl s
/-- A state is the call's own. -/
structure XOw (w : World) (B nl : Nat) (s : PSt) : Prop where
  so : w.ownsRow B 32 2 (.slice s.sA s.sh.length s.sk) s.sh.length (s.sh.flatMap ccell)
  oo : w.ownsRow B 4 1 (.slice s.oA s.op.length s.ok) s.op.length (s.op.flatMap boolc)
  num : StNum nl s
section
variable {w w' : World} {B B' nl : Nat} {s : PSt}
theorem XAt.new_ (h : XAt w w.heap.size nl s) (hb : Below w.heap.size w w') : XAt w' w'.heap.size nl s := ⟨h.rs.new_ hb, h.ro.new_ hb, h.num⟩
theorem XAt.below (h : XAt w B nl s) (hb : Below B w w') : XAt w' B nl s := ⟨h.rs.below hb, h.ro.below hb, h.num⟩
theorem XAt.more (h : XAt w B nl s) (hB : B ≤ B') : XAt w B' nl s := ⟨h.rs.more hB, h.ro.more hB, h.num⟩
theorem XAt.keep (h : XAt w B nl s) (hk : ∀ p : Addr, p.block < B → w'.cell? p = w.cell? p) : XAt w' B nl s := ⟨h.rs.keep hk, h.ro.keep hk, h.num⟩
theorem XOw.new_ (h : XOw w B nl s) (hb : Below w.heap.size w w') : XOw w' B nl s := ⟨own_new h.so hb, own_new h.oo hb, h.num⟩
theorem XOw.base (h : XOw w B nl s) (hB : B' ≤ B) : XOw w B' nl s := ⟨own_base h.so hB, own_base h.oo hB, h.num⟩
theorem XOw.at (h : XOw w B nl s) : XAt w w.heap.size nl s := ⟨RowsAt.of_own h.so ccell_len (by omega) rfl, RowsAt.of_own h.oo boolc_len (by omega) rfl, h.num⟩
/-- A bool is at a place of a row. -/
theorem RowsAt.bat {b o k : Nat} {l : List Bool} {u : Bool} (h : RowsAt w B 1 boolc (some ⟨b, o, none⟩) l) (hk : l[k]? = some u) : w.cell? ⟨b, o + k, none⟩ = some (.bool u) ∧ b < B := by
  obtain ⟨x, b', o', hx, e, hb, -, hc⟩ := h.at_ (List.getElem?_eq_some_iff.1 hk).1
  injection e with e
  injection e with e1 e2
  subst e1 e2
  rw [hk] at hx
  injection hx with hx
  subst hx
  have := hc 0 (.bool u) rfl
  simp only [Nat.add_zero, Nat.mul_one] at this
  exact ⟨this, hb⟩
end
/-- Start's memory: k shares, j flags. -/
structure SB (w W : World) (n : PNet) (b3 b0 : Nat) (A : Option Addr) (ka k : Nat) (A' : Option Addr) (kb j : Nat) : Prop where
  x : Blk W w.heap.size 25 #[.slice n.cA n.caps.length n.ck, .slice n.fA n.flows.length n.fk]
  z : Blk W (w.heap.size + 1) 54 #[.slice none 0 0, .slice none 0 0]
  b : Blk W b3 54 #[.slice A k ka, .slice A' j kb]
  so : W.ownsRow b0 32 2 (.slice A k ka) k ((List.replicate k (⟨0, 1⟩ : Rq)).flatMap ccell)
  oo : W.ownsRow b0 4 1 (.slice A' j kb) j ((List.replicate j true).flatMap boolc)
  blw : Below w.heap.size w W
  lo : w.heap.size + 1 < b3 ∧ b3 < b0 ∧ b0 ≤ W.heap.size
section
variable {w W W' : World} {n : PNet} {b3 b0 ka k kb j k2 : Nat} {A A' A2 : Option Addr}
theorem SB.new_ (h : SB w W n b3 b0 A ka k A' kb j) (hb : Below W.heap.size W W') : SB w W' n b3 b0 A ka k A' kb j := by
  have hl := h.lo
  have hs := hb.size
  exact ⟨h.x.new_ hb, h.z.new_ hb, h.b.new_ hb, own_new h.so hb, own_new h.oo hb, join h.blw hb, by omega⟩
theorem SB.growS (h : SB w W n b3 b0 A ka k A' kb j) (ho : W'.ownsRow b0 32 2 (.slice A2 (k + 1) k2) (k + 1) ((List.replicate k (⟨0, 1⟩ : Rq)).flatMap ccell ++ ccell ⟨0, 1⟩)) (hg : W.grownBy W' (Value.slice A k ka).ownBlock) : SB w (W'.setCell ⟨b3, 0, none⟩ (.slice A2 (k + 1) k2)) n b3 b0 A2 k2 (k + 1) A' kb j := by
  have hl := h.lo
  have hs := hg.size
  have hlt := h.so.lt
  have hne : ∀ q, q < b0 → some q ≠ (Value.slice A k ka).ownBlock := fun q hq e => by have := (hlt q e.symm).1; omega
  have ho2 : W'.ownsRow b0 32 2 (.slice A2 (k + 1) k2) (k + 1) ((List.replicate (k + 1) (⟨0, 1⟩ : Rq)).flatMap ccell) := by rw [List.replicate_succ', List.flatMap_append]; simpa using ho
  have hoo : W'.ownsRow b0 4 1 (.slice A' j kb) j ((List.replicate j true).flatMap boolc) := own_grown h.oo hg (fun q hq e => by
    exact own_own_ne h.oo h.so (by decide) q hq e)
  refine ⟨(h.x.grown hg (hne _ (by omega))).far (by simp only; omega) _, (h.z.grown hg (hne _ (by omega))).far (by simp only; omega) _, (h.b.grown hg (hne _ (by omega))).to 0 _ rfl, own_move ho2 fun q hq => ?_, own_move hoo fun q hq => ?_, (h.blw.grown hg (by omega) (fun q e => by have := (hlt q e).1; omega)).setCell (by simp only; omega) _, by simp; omega⟩
  · exact Below.heap_setCell _ _ _ _ (by have := (ho2.lt q hq).1; simp only; omega)
  · exact Below.heap_setCell _ _ _ _ (by have := (hoo.lt q hq).1; simp only; omega)
theorem SB.growO (h : SB w W n b3 b0 A ka k A' kb j) (ho : W'.ownsRow b0 4 1 (.slice A2 (j + 1) k2) (j + 1) ((List.replicate j true).flatMap boolc ++ boolc true)) (hg : W.grownBy W' (Value.slice A' j kb).ownBlock) : SB w (W'.setCell ⟨b3, 1, none⟩ (.slice A2 (j + 1) k2)) n b3 b0 A ka k A2 k2 (j + 1) := by
  have hl := h.lo
  have hs := hg.size
  have hlt := h.oo.lt
  have hne : ∀ q, q < b0 → some q ≠ (Value.slice A' j kb).ownBlock := fun q hq e => by have := (hlt q e.symm).1; omega
  have ho2 : W'.ownsRow b0 4 1 (.slice A2 (j + 1) k2) (j + 1) ((List.replicate (j + 1) true).flatMap boolc) := by rw [List.replicate_succ', List.flatMap_append]; simpa using ho
  have hso : W'.ownsRow b0 32 2 (.slice A k ka) k ((List.replicate k (⟨0, 1⟩ : Rq)).flatMap ccell) := own_grown h.so hg (fun q hq e => by
    exact own_own_ne h.so h.oo (by decide) q hq e)
  refine ⟨(h.x.grown hg (hne _ (by omega))).far (by simp only; omega) _, (h.z.grown hg (hne _ (by omega))).far (by simp only; omega) _, (h.b.grown hg (hne _ (by omega))).to 1 _ rfl, own_move hso fun q hq => ?_, own_move ho2 fun q hq => ?_, (h.blw.grown hg (by omega) (fun q e => by have := (hlt q e).1; omega)).setCell (by simp only; omega) _, by simp; omega⟩
  · exact Below.heap_setCell _ _ _ _ (by have := (hso.lt q hq).1; simp only; omega)
  · exact Below.heap_setCell _ _ _ _ (by have := (ho2.lt q hq).1; simp only; omega)
theorem SB.fin (h : SB w W n b3 b0 A ka k A' kb j) (u v : Value) : ∃ W', W' = (W.setCell ⟨w.heap.size + 1, 0, none⟩ u).setCell ⟨w.heap.size + 1, 1, none⟩ v ∧ W'.cell? ⟨w.heap.size + 1, 0, none⟩ = some u ∧ W'.cell? ⟨w.heap.size + 1, 1, none⟩ = some v ∧ Below w.heap.size w W' ∧ (∀ q, b0 ≤ q → W'.heap[q]? = W.heap[q]?) := by
  have hl := h.lo
  have hb : Blk ((W.setCell ⟨w.heap.size + 1, 0, none⟩ u).setCell ⟨w.heap.size + 1, 1, none⟩ v) (w.heap.size + 1) 54 #[u, v] := (h.z.set_ 0 u).to 1 v rfl
  exact ⟨_, rfl, hb.cell 0 rfl, hb.cell 1 rfl, (h.blw.setCell (by simp only; omega) _).setCell (by simp only; omega) _, fun q hq => (Below.heap_setCell _ _ _ _ (by simp only; omega)).trans (Below.heap_setCell _ _ _ _ (by simp only; omega))⟩
end
def startS (nl : Nat) (A : Option Addr) (ka : Nat) (A' : Option Addr) (kb : Nat) : PSt := ⟨List.replicate nl ⟨0, 1⟩, A, ka, List.replicate nl true, A', kb⟩
theorem start_num (nl : Nat) (A : Option Addr) (ka : Nat) (A' : Option Addr) (kb : Nat) : StNum nl (startS nl A ka A' kb) := ⟨by simp [startS], by simp [startS], fun r hr => by rw [(List.mem_replicate.1 hr).2]; rfl, fun r hr => by rw [(List.mem_replicate.1 hr).2]; decide⟩
/-- What Start answers. -/
def StaR (w : World) (nl : Nat) (e : Ending) (w' : World) : Prop := ∃ (A : Option Addr) (ka : Nat) (A' : Option Addr) (kb : Nat), e = .returned (.agg #[.slice A nl ka, .slice A' nl kb]) ∧ XOw w' w.heap.size nl (startS nl A ka A' kb) ∧ Below w.heap.size w w'
set_option maxRecDepth 100000 in
set_option maxHeartbeats 16000000 in
theorem xstart_c (n : PNet) (w : World) (hn : NetAt w w.heap.size n) (hv : netOk n = true) : Calls Try.prog 21 #[nval n] w (StaR w n.caps.length) := by
  have VN := fun w h => valid_net_c n w h
  rw [hv] at VN
  have HN := Kept.mk hn
  have hc32 : n.caps.length ≤ 32 := by
    unfold netOk at hv
    rw [Bool.and_eq_true, decide_eq_true_eq] at hv
    exact hv.1
  clear hn hv
  obtain ⟨caps, cA, ck, flows, fA, fk⟩ := n
  dsimp only at hc32
  unfold nval at VN ⊢
  dsimp only at VN ⊢
  have HX0 : Kept (Blk ((w.alloc (.cells #[.slice cA caps.length ck, .slice fA flows.length fk] 25)).alloc (.cells #[.slice none 0 0, .slice none 0 0] 54)) w.heap.size 25 #[.slice cA caps.length ck, .slice fA flows.length fk] ∧ Blk ((w.alloc (.cells #[.slice cA caps.length ck, .slice fA flows.length fk] 25)).alloc (.cells #[.slice none 0 0, .slice none 0 0] 54)) (w.heap.size + 1) 54 #[.slice none 0 0, .slice none 0 0] ∧ Below w.heap.size w ((w.alloc (.cells #[.slice cA caps.length ck, .slice fA flows.length fk] 25)).alloc (.cells #[.slice none 0 0, .slice none 0 0] 54))) := ⟨(Blk.new _ _ _).alloc _, by
    have := Blk.new (w.alloc (.cells #[.slice cA caps.length ck, .slice fA flows.length fk] 25)) 54 #[.slice none 0 0, .slice none 0 0]
    rwa [World.size_alloc] at this, by go_grown⟩
  have HN0 := HN.out.new_ HX0.out.2.2
  obtain ⟨R, hR⟩ : ∃ R, R = StaR w caps.length := ⟨_, rfl⟩
  rw [← hR]
  have HR := Kept.mk hR
  clear hR
  go_enter Try.func21, Try.ntmps21
  go_upto_region 1 with fail
  obtain ⟨V, hV⟩ : ∃ V, V = (w.alloc (.cells #[.slice cA caps.length ck, .slice fA flows.length fk] 25)).alloc (.cells #[.slice none 0 0, .slice none 0 0] 54) := ⟨_, rfl⟩
  rw [← hV] at HX0 HN0 ⊢
  clear hV
  have n0 := HX0.out.1.cell 0 (v := .slice cA caps.length ck) rfl
  have n1 := HX0.out.1.cell 1 (v := .slice fA flows.length fk) rfl
  have nl := HX0.out.1.lt
  go_upto_region 3 with (go_at_call 27; refine (VN _ HN0).mono ?_; rintro e w1 ⟨rfl, hb1⟩; have HX1 : Kept (Blk w1 w.heap.size 25 #[.slice cA caps.length ck, .slice fA flows.length fk] ∧ Blk w1 (w.heap.size + 1) 54 #[.slice none 0 0, .slice none 0 0] ∧ Below w.heap.size w w1) := ⟨HX0.out.1.new_ hb1, HX0.out.2.1.new_ hb1, join HX0.out.2.2 hb1⟩; clear hb1 n0 n1 nl)
  go_upto_region 4 with fail
  obtain ⟨b3, hb3⟩ : ∃ b, b = w1.heap.size := ⟨_, rfl⟩
  obtain ⟨b0, hb0⟩ : ∃ b, b = b3 + 1 := ⟨_, rfl⟩
  obtain ⟨V, hV, HV⟩ : ∃ V, V = w1.alloc (.cells #[.slice none 0 0, .slice none 0 0] 54) ∧ Kept (SB w V ⟨caps, cA, ck, flows, fA, fk⟩ b3 b0 none 0 0 none 0 0) := ⟨_, rfl, ⟨⟨HX1.out.1.alloc _, HX1.out.2.1.alloc _, by rw [hb3]; exact Blk.new _ _ _, World.ownsRow_nil _ _ _ _, World.ownsRow_nil _ _ _ _, HX1.out.2.2.alloc HX1.out.2.2.size _, by have := HX1.out.2.1.lt; rw [World.size_alloc]; omega⟩⟩⟩
  rw [← hV, ← hb3]
  clear hV hb3 hb0 HX1 HX0 HN0
  have n0 := HV.out.x.cell 0 (v := .slice cA caps.length ck) rfl
  have n1 := HV.out.x.cell 1 (v := .slice fA flows.length fk) rfl
  have nl := HV.out.x.lt
  go_wp2_with fail
  go_loopw [11] (fun v wr => ∃ (k : Nat) (A : Option Addr) (ka : Nat) (A' : Option Addr) (kb : Nat), k ≤ caps.length ∧ v = .int .i64 k ∧ Kept (SB w wr ⟨caps, cA, ck, flows, fA, fk⟩ b3 b0 A ka k A' kb k)) (fun v _ => caps.length - (intOf v).toNat)
  case atStart => exact ⟨0, none, 0, none, 0, Nat.zero_le _, rfl, HV⟩
  case round =>
    clear HV n0 n1 nl
    obtain ⟨k, A, ka, A', kb, hk, rfl, HV⟩ := hrel
    have hl := HV.out.lo
    by_cases hlt : k < caps.length
    · obtain ⟨i4, hi4, hz0, hz1, hz2⟩ := info_parts infoR
      have t0 := HV.out.b.cell 0 (v := .slice A k ka) rfl
      have t1 := HV.out.b.lt
      have HOA := Kept.mk (HV.out.new_ ((Below.refl wr.heap.size wr).alloc (Nat.le_refl _) (.cells #[.int .i64 0, .int .i64 1] 32)))
      have HRL := Kept.mk (reads_made wr #[.int .i64 0, .int .i64 1] 32 2 1 rfl)
      go_upto_region 7 with (at_builtin; refine wpList_append_any _ rfl _ _ _ rfl b0 32 i4 _ 2 16 Try.underlying22 hi4 hz0 hz1 hz2 rfl (by omega) _ k _ rfl HOA.out.so _ _ 1 1 _ rfl HRL.out (fun u hu => by simp at hu; rcases hu with rfl | rfl <;> rfl) (by unfold maxLen; omega) (by omega) (by simp only [World.size_alloc]; omega) ?_; intro v' w9 ho hgw hat; obtain ⟨A2, k2, rfl⟩ := own_slice ho; have HS9 := Kept.mk (HOA.out.growS ho hgw); have HB9 := Kept.mk (HOA.out.b.grown hgw (fun e => by have := (HOA.out.so.lt b3 e.symm).1; omega)); clear ho hgw hat t0 t1; have t0 := HB9.out.cell 0 (v := .slice A k ka) rfl; have t2 := HB9.out.free 0; have t1 := HB9.out.lt)
      obtain ⟨V, hV⟩ : ∃ V, V = w9.setCell ⟨b3, 0, none⟩ (.slice A2 (k + 1) k2) := ⟨_, rfl⟩
      rw [← hV] at HS9 ⊢
      clear hV HB9 HOA HRL t0 t1 t2 hl HV
      have hl := HS9.out.lo
      obtain ⟨i5, hi5, hy0, hy1, hy2⟩ := info_parts infoO
      have t0 := HS9.out.b.cell 1 (v := .slice A' k kb) rfl
      have t1 := HS9.out.b.lt
      have HOA := Kept.mk (HS9.out.new_ ((Below.refl V.heap.size V).alloc (Nat.le_refl _) (.cells #[.bool true] 4)))
      have HRL := Kept.mk (reads_made V #[.bool true] 4 1 1 rfl)
      go_wp2_with (at_builtin; refine wpList_append_any _ rfl _ _ _ rfl b0 4 i5 _ 1 1 Try.underlying47 hi5 hy0 hy1 hy2 rfl (by omega) _ k _ rfl HOA.out.oo _ _ 1 1 _ rfl HRL.out (fun u hu => by simp at hu; subst hu; rfl) (by unfold maxLen; omega) (by omega) (by simp only [World.size_alloc]; omega) ?_; intro v' w10 ho hgw hat; obtain ⟨A3, k3, rfl⟩ := own_slice ho; have HS10 := Kept.mk (HOA.out.growO ho hgw); have HB10 := Kept.mk (HOA.out.b.grown hgw (fun e => by have := (HOA.out.oo.lt b3 e.symm).1; omega)); clear ho hgw hat t0 t1; have t0 := HB10.out.cell 1 (v := .slice A' k kb) rfl; have t2 := HB10.out.free 1; have t1 := HB10.out.lt)
      go_roundw
      case rel => exact ⟨k + 1, A2, k2, A3, k3, by omega, by go_num, HS10⟩
      case measure => simp [intOf]; omega
    · obtain rfl : k = caps.length := by omega
      clear hlt
      have t0 := HV.out.b.cell 0 (v := .slice A caps.length ka) rfl
      have t1 := HV.out.b.cell 1 (v := .slice A' caps.length kb) rfl
      have t2 := HV.out.b.lt
      have z0 := HV.out.z.cell 0 (v := .slice none 0 0) rfl
      have z1 := HV.out.z.cell 1 (v := .slice none 0 0) rfl
      have zf0 := HV.out.z.free 0
      have zf1 := HV.out.z.free 1
      have zl := HV.out.z.lt
      go_wp2_with fail
      obtain ⟨W9, hW9, s0, s1, hb, hh⟩ := HV.out.fin (.slice A caps.length ka) (.slice A' caps.length kb)
      rw [← hW9]
      clear hW9
      rw [HR.out]
      have e1 : (startS caps.length A ka A' kb).sh.length = caps.length := by simp [startS]
      have e2 : (startS caps.length A ka A' kb).op.length = caps.length := by simp [startS]
      refine bodyPost_ret (v := .agg #[.slice A caps.length ka, .slice A' caps.length kb]) (by simp [results, Try.results21, go_sem, s0, s1]) rfl ⟨A, ka, A', kb, rfl, ⟨?_, ?_, start_num _ _ _ _ _⟩, hb⟩
      · rw [e1]; exact own_base (own_move HV.out.so fun q hq => hh q (HV.out.so.lt q hq).1) (by omega)
      · rw [e2]; exact own_base (own_move HV.out.oo fun q hq => hh q (HV.out.oo.lt q hq).1) (by omega)
/-- Valid's boxes. -/
structure XV (w W : World) (n : PNet) (s : PSt) : Prop where
  x : Blk W w.heap.size 25 #[.slice n.cA n.caps.length n.ck, .slice n.fA n.flows.length n.fk]
  y : Blk W (w.heap.size + 1) 54 #[.slice s.sA s.sh.length s.sk, .slice s.oA s.op.length s.ok]
  blw : Below w.heap.size w W
theorem XV.new_ {w W W' : World} {n : PNet} {s : PSt} (h : XV w W n s) (hb : Below W.heap.size W W') : XV w W' n s := ⟨h.x.new_ hb, h.y.new_ hb, join h.blw hb⟩
theorem XV.start (w : World) (n : PNet) (s : PSt) : XV w ((w.alloc (.cells #[.slice n.cA n.caps.length n.ck, .slice n.fA n.flows.length n.fk] 25)).alloc (.cells #[.slice s.sA s.sh.length s.sk, .slice s.oA s.op.length s.ok] 54)) n s := by
  have := Blk.new (w.alloc (.cells #[.slice n.cA n.caps.length n.ck, .slice n.fA n.flows.length n.fk] 25)) 54 #[.slice s.sA s.sh.length s.sk, .slice s.oA s.op.length s.ok]
  rw [World.size_alloc] at this
  exact ⟨(Blk.new _ _ _).alloc _, this, by go_grown⟩
set_option maxRecDepth 100000 in
set_option maxHeartbeats 16000000 in
theorem xvalid_c (n : PNet) (s : PSt) (w : World) (hn : NetAt w w.heap.size n) (hv : netOk n = true) (hs : XAt w w.heap.size n.caps.length s) : Calls Try.prog 46 #[nval n, sval s] w fun e w' => e = .returned (.bool true) ∧ Below w.heap.size w w' := by
  have VN := fun w h => valid_net_c n w h
  rw [hv] at VN
  have HN := Kept.mk hn
  have HS := Kept.mk hs
  have hc32 : n.caps.length ≤ 32 := by
    unfold netOk at hv
    rw [Bool.and_eq_true, decide_eq_true_eq] at hv
    exact hv.1
  have hls := hs.num.ls
  have hlo := hs.num.lo
  clear hn hv hs
  obtain ⟨caps, cA, ck, flows, fA, fk⟩ := n
  obtain ⟨sh, sA, sk, op, oA, ok⟩ := s
  dsimp only at hc32 hls hlo HS
  unfold nval at VN
  unfold nval sval
  dsimp only at VN ⊢
  have HX0 := Kept.mk (XV.start w ⟨caps, cA, ck, flows, fA, fk⟩ ⟨sh, sA, sk, op, oA, ok⟩)
  unfold XV.start at HX0
  have HXX : Kept (XV w ((w.alloc (.cells #[.slice cA caps.length ck, .slice fA flows.length fk] 25)).alloc (.cells #[.slice sA caps.length sk, .slice oA caps.length ok] 54)) ⟨caps, cA, ck, flows, fA, fk⟩ ⟨sh, sA, sk, op, oA, ok⟩) := ⟨by have := HX0.out; dsimp only at this; rwa [hls, hlo] at this⟩
  clear HX0
  rw [hls, hlo]
  have HLS := Kept.mk (And.intro hls hlo)
  obtain ⟨V, hV⟩ : ∃ V, V = (w.alloc (.cells #[.slice cA caps.length ck, .slice fA flows.length fk] 25)).alloc (.cells #[.slice sA caps.length sk, .slice oA caps.length ok] 54) := ⟨_, rfl⟩
  rw [← hV] at HXX
  have HN0 := HN.out.new_ HXX.out.blw
  clear hls hlo
  go_enter Try.func46, Try.ntmps46
  go_upto_region 1 with fail
  rw [← hV]
  clear hV
  have n0 := HXX.out.x.cell 0 (v := .slice cA caps.length ck) rfl
  have n1 := HXX.out.x.cell 1 (v := .slice fA flows.length fk) rfl
  have nl := HXX.out.x.lt
  have y0 := HXX.out.y.cell 0 (v := .slice sA caps.length sk) (by rw [← HLS.out.1]; rfl)
  have y1 := HXX.out.y.cell 1 (v := .slice oA caps.length ok) (by rw [← HLS.out.2]; rfl)
  have yl := HXX.out.y.lt
  go_upto_region 3 with (go_at_call 27; refine (VN _ HN0).mono ?_; rintro e w1 ⟨rfl, hb1⟩; have HX1 := Kept.mk (HXX.out.new_ hb1); clear hb1 n0 n1 nl y0 y1 yl; have n0 := HX1.out.x.cell 0 (v := .slice cA caps.length ck) rfl; have nl := HX1.out.x.lt; have y0 := HX1.out.y.cell 0 (v := .slice sA caps.length sk) (by rw [← HLS.out.1]; rfl); have y1 := HX1.out.y.cell 1 (v := .slice oA caps.length ok) (by rw [← HLS.out.2]; rfl); have yl := HX1.out.y.lt)
  clear HXX HN0
  go_wp2_with fail
  go_loopw [31] (fun v wr => ∃ k : Nat, k ≤ caps.length ∧ v = .int .i64 k ∧ Kept (XV w wr ⟨caps, cA, ck, flows, fA, fk⟩ ⟨sh, sA, sk, op, oA, ok⟩)) (fun v _ => caps.length - (intOf v).toNat)
  case atStart => exact ⟨0, Nat.zero_le _, rfl, HX1⟩
  case round =>
    clear HX1 n0 nl y0 y1 yl
    obtain ⟨k, hk, rfl, HV⟩ := hrel
    by_cases hlt : k < caps.length
    · obtain ⟨r, bS, oS, hr, rfl, -, hbS, hcl⟩ := (HS.out.new_ HV.out.blw).rs.at_ (show k < sh.length by rw [HLS.out.1]; exact hlt)
      have c0 := hcl 0 _ rfl
      have c1 := hcl 1 _ rfl
      simp only [Nat.add_zero] at c0
      obtain ⟨u, bO, oO, hu, rfl, -, hbO, hcl2⟩ := (HS.out.new_ HV.out.blw).ro.at_ (show k < op.length by rw [HLS.out.2]; exact hlt)
      have d0 := hcl2 0 (.bool u) rfl
      simp only [Nat.add_zero, Nat.mul_one] at d0
      have hro := HS.out.num.ok r (List.mem_of_getElem? hr)
      have hrn := HS.out.num.nn r (List.mem_of_getElem? hr)
      have drn : decide (r.n < 0) = false := decide_eq_false (by omega)
      have h64 := okQ_R64 hro
      have V1 := fun w => valid_c r w h64.1.1 h64.1.2 h64.2.1 h64.2.2
      rw [hro] at V1
      unfold rqv at V1
      have HVA : Kept (XV w (wr.alloc (.cells #[.int .i64 r.n, .int .i64 r.d] 32)) ⟨caps, cA, ck, flows, fA, fk⟩ ⟨sh, some ⟨bS, oS, none⟩, sk, op, some ⟨bO, oO, none⟩, ok⟩ ∧ Blk (wr.alloc (.cells #[.int .i64 r.n, .int .i64 r.d] 32)) wr.heap.size 32 #[.int .i64 r.n, .int .i64 r.d]) := ⟨HV.out.new_ ((Below.refl _ _).alloc (Nat.le_refl _) _), Blk.new _ _ _⟩
      have y1 := HV.out.y.cell 1 (v := .slice (some ⟨bO, oO, none⟩) caps.length ok) (by rw [← HLS.out.2]; rfl)
      have yl := HV.out.y.lt
      clear hcl hcl2 hr hu hro hrn h64
      cases u with
      | true =>
        go_wp2_with fail
        go_roundw
        case rel => exact ⟨k + 1, by omega, by go_num, ⟨HVA.out.1⟩⟩
        case measure => simp [intOf]; omega
      | false =>
        go_wp2_with (go_at_call 22; refine (V1 _).mono ?_; rintro e w2 ⟨rfl, hb2⟩; have HV2 : Kept (XV w w2 ⟨caps, cA, ck, flows, fA, fk⟩ ⟨sh, some ⟨bS, oS, none⟩, sk, op, some ⟨bO, oO, none⟩, ok⟩ ∧ Blk w2 wr.heap.size 32 #[.int .i64 r.n, .int .i64 r.d]) := ⟨HVA.out.1.new_ hb2, HVA.out.2.new_ hb2⟩; clear hb2; have p0 := HV2.out.2.cell 0 (v := .int .i64 r.n) rfl; have pl := HV2.out.2.lt)
        go_roundw
        case rel => exact ⟨k + 1, by omega, by go_num, ⟨HV2.out.1⟩⟩
        case measure => simp [intOf]; omega
    · obtain rfl : k = caps.length := by omega
      clear hlt
      go_wp2_with fail
      go_ret
      exact ⟨rfl, HV.out.blw⟩
end Go.Proofs.Ytjalegdfofogcaa
