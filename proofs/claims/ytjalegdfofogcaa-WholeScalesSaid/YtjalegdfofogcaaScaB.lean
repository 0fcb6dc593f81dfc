/- WholeScales: a net that is put together by append. -/
import Derived.Test.YtjalegdfofogcaaSlc
import Derived.Test.YtjalegdfofogcaaScaA
namespace Go.Proofs.Ytjalegdfofogcaa
set_option linter.unusedVariables false
set_option linter.unusedSimpArgs false
open Go.RowKit
/-- The statement's memory: the net's box, the rates; a box kb that stays; the box bx of a net under way with its two rows, which lie from base b on. -/
structure SA (w W : World) (n : PNet) (gq : Nat) (rs : List Rq) (kb : Nat) (kv : Array Value) (bx : Nat) (vc vf : Value) (cs : List Rq) (fs : List PFlow) (b : Nat) : Prop where
  x : Blk W w.heap.size 25 #[.slice n.cA n.caps.length n.ck, .slice n.fA n.flows.length n.fk]
  net : NetAt W w.heap.size n
  rr : RowBlk W gq 32 ccell rs
  ke : Blk W kb 32 kv
  sb : Blk W bx 25 #[vc, vf]
  oc : W.ownsRow b 32 2 vc cs.length (cs.flatMap ccell)
  of : W.ownsRow b 37 4 vf fs.length (fs.flatMap fcell)
  blw : Below w.heap.size w W
  lo : w.heap.size < gq ∧ w.heap.size < bx ∧ bx < b ∧ gq < b ∧ kb < b ∧ b ≤ W.heap.size
section
variable {w W W' : World} {n : PNet} {gq : Nat} {rs : List Rq} {kb : Nat} {kv : Array Value} {bx : Nat} {vc vf : Value} {cs : List Rq} {fs : List PFlow} {b : Nat}
theorem SA.new_ (h : SA w W n gq rs kb kv bx vc vf cs fs b) (hb : Below W.heap.size W W') : SA w W' n gq rs kb kv bx vc vf cs fs b :=
  ⟨h.x.new_ hb, h.net.keep (B' := w.heap.size) (fun p hp => hb.cell (by have := h.x.lt; omega)), h.rr.new_ hb, h.ke.new_ hb, h.sb.new_ hb, own_new h.oc hb, own_new h.of hb, join h.blw hb, by have := h.lo; have := hb.size; omega⟩
theorem SA.alloc (h : SA w W n gq rs kb kv bx vc vf cs fs b) (o : Obj) : SA w (W.alloc o) n gq rs kb kv bx vc vf cs fs b := h.new_ ((Below.refl _ _).alloc (Nat.le_refl _) o)
/-- Writes in blocks from b on that are none of the rows. -/
theorem SA.far (h : SA w W n gq rs kb kv bx vc vf cs fs b) {p : Addr} (hp : b ≤ p.block) (hc : ∀ q, vc.ownBlock = some q → q ≠ p.block) (hf : ∀ q, vf.ownBlock = some q → q ≠ p.block) (u : Value) : SA w (W.setCell p u) n gq rs kb kv bx vc vf cs fs b := by
  have hl := h.lo
  exact ⟨h.x.far (by omega) u, h.net.keep (B' := w.heap.size) (fun q hq => World.cell?_setCell_other _ _ _ _ (fun e => by subst e; omega)), h.rr.far (by omega) u, h.ke.far (by omega) u, h.sb.far (by omega) u,
    own_move h.oc (fun q hq => Below.heap_setCell _ _ _ q (hc q hq)), own_move h.of (fun q hq => Below.heap_setCell _ _ _ q (hf q hq)), h.blw.setCell (by omega) u, by simp only [World.size_setCell]; exact hl⟩
/-- A capacity more. -/
theorem SA.growC {vc' : Value} {x : Rq} (h : SA w W n gq rs kb kv bx vc vf cs fs b) (ho : W'.ownsRow b 32 2 vc' (cs.length + 1) (cs.flatMap ccell ++ ccell x)) (hw : W.grownBy W' vc.ownBlock) : SA w (W'.setCell ⟨bx, 0, none⟩ vc') n gq rs kb kv bx vc' vf (cs ++ [x]) fs b := by
  obtain ⟨l1, l2, l3, l4, l5, l6⟩ := h.lo
  have hrow : ∀ q, vc.ownBlock = some q → b ≤ q := fun q hq => (h.oc.lt q hq).1
  have hO := (OnlyP.refl (fun q => b ≤ q) W).grown hw (fun q hq => .inl (hrow q hq))
  have hkb : kb ≠ bx := Blk.ne_ h.ke h.sb (by decide)
  have hgq : gq ≠ bx := Blk.ne_ h.rr h.sb (by decide)
  have mv : ∀ {e : TypeId} {sz k : Nat} {u : Value} {xs : List Value}, W'.ownsRow b e sz u k xs → (W'.setCell ⟨bx, 0, none⟩ vc').ownsRow b e sz u k xs := fun hh => own_move hh fun q hq => Below.heap_setCell _ _ _ q (by have := (hh.lt q hq).1; simp only; omega)
  refine ⟨(h.x.only hO (by omega)).far (by simp only; omega) _, ?_, (h.rr.only hO (by omega)).far hgq _, (h.ke.only hO (by omega)).far hkb _, (h.sb.only hO (by omega)).to 0 _ rfl, ?_, mv (own_grown h.of hw (own_own_ne h.of h.oc (by decide))), (joinP h.blw hO (fun q hq => by omega) (Nat.le_refl _)).setCell (by simp only; omega) _, by simp only [World.size_setCell]; have := hw.size; omega⟩
  · exact h.net.keep (B' := w.heap.size) (fun p hp => by rw [World.cell?_setCell_other _ _ _ _ (fun e => by subst e; simp only at hp; omega)]; exact World.cell?_of_block (hO.block p.block (by have := h.x.lt; omega) (by omega)))
  · rw [List.length_append, List.flatMap_append]
    have : ([x] : List Rq).flatMap ccell = ccell x := by simp
    rw [this]
    exact mv ho
/-- A flow more. -/
theorem SA.growF {vf' : Value} {x : PFlow} (h : SA w W n gq rs kb kv bx vc vf cs fs b) (ho : W'.ownsRow b 37 4 vf' (fs.length + 1) (fs.flatMap fcell ++ fcell x)) (hw : W.grownBy W' vf.ownBlock) : SA w (W'.setCell ⟨bx, 1, none⟩ vf') n gq rs kb kv bx vc vf' cs (fs ++ [x]) b := by
  obtain ⟨l1, l2, l3, l4, l5, l6⟩ := h.lo
  have hrow : ∀ q, vf.ownBlock = some q → b ≤ q := fun q hq => (h.of.lt q hq).1
  have hO := (OnlyP.refl (fun q => b ≤ q) W).grown hw (fun q hq => .inl (hrow q hq))
  have hkb : kb ≠ bx := Blk.ne_ h.ke h.sb (by decide)
  have hgq : gq ≠ bx := Blk.ne_ h.rr h.sb (by decide)
  have mv : ∀ {e : TypeId} {sz k : Nat} {u : Value} {xs : List Value}, W'.ownsRow b e sz u k xs → (W'.setCell ⟨bx, 1, none⟩ vf').ownsRow b e sz u k xs := fun hh => own_move hh fun q hq => Below.heap_setCell _ _ _ q (by have := (hh.lt q hq).1; simp only; omega)
  refine ⟨(h.x.only hO (by omega)).far (by simp only; omega) _, ?_, (h.rr.only hO (by omega)).far hgq _, (h.ke.only hO (by omega)).far hkb _, (h.sb.only hO (by omega)).to 1 _ rfl, mv (own_grown h.oc hw (own_own_ne h.oc h.of (by decide))), ?_, (joinP h.blw hO (fun q hq => by omega) (Nat.le_refl _)).setCell (by simp only; omega) _, by simp only [World.size_setCell]; have := hw.size; omega⟩
  · exact h.net.keep (B' := w.heap.size) (fun p hp => by rw [World.cell?_setCell_other _ _ _ _ (fun e => by subst e; simp only at hp; omega)]; exact World.cell?_of_block (hO.block p.block (by have := h.x.lt; omega) (by omega)))
  · rw [List.length_append, List.flatMap_append]
    have : ([x] : List PFlow).flatMap fcell = fcell x := by simp
    rw [this]
    exact mv ho
end
/-- The rates behind the last level. -/
theorem fin_good {n : PNet} {m : Nat} (hn : NetOk n) (h : Fin n m) : (itr n m).1.length = n.flows.length ∧ ∀ r ∈ (itr n m).1, okQ r = true ∧ Gd 103680 84348 (val r) := by
  have hs := itr_ok hn m h.1
  have hm : m ≤ 5 := by
    have := hs.many
    have := tr_le (itr n m).2 n.flows.length
    have := hn.nf
    omega
  refine ⟨hs.lr, fun r hr => ?_⟩
  obtain ⟨k, hk⟩ := List.getElem?_of_mem hr
  have hkl : k < n.flows.length := by rw [← hs.lr]; exact (List.getElem?_eq_some_iff.1 hk).1
  obtain ⟨b, hb⟩ := get_some (l := (itr n m).2) (k := k) (by rw [hs.lz]; exact hkl)
  have hf := all_frozen hs.lz h.2 hkl
  rw [isF_of hb] at hf
  subst hf
  obtain ⟨g1, g2⟩ := hs.rates k r hb hk
  refine ⟨g1, (g2.to ?_).wide (mm_le hm)⟩
  have hm' : m = 0 ∨ m = 1 ∨ m = 2 ∨ m = 3 ∨ m = 4 ∨ m = 5 := by omega
  rcases hm' with rfl | rfl | rfl | rfl | rfl | rfl <;> decide
theorem gd_mulk {x : Rat} {D M k : Nat} (h : Gd D M x) : Gd D (M * k) (x * (k : Rat)) := by
  obtain ⟨z, hz, bz⟩ := h
  refine ⟨z * k, ?_, ?_⟩
  · rw [Rat.mul_assoc, Rat.mul_comm (k : Rat), ← Rat.mul_assoc, hz, Rat.intCast_mul, Rat.intCast_natCast]
  · rw [Int.natAbs_mul, Int.natAbs_natCast]
    have := Nat.mul_le_mul_right k bz
    rw [Nat.mul_assoc, Nat.mul_comm D k, ← Nat.mul_assoc] at this
    exact this
theorem rt_get {rs : List Rq} {i : Nat} {r : Rq} (h : rs[i]? = some r) : rt rs i = val r := by unfold rt; rw [List.getD_eq_getElem?_getD, h]; rfl
theorem sm_kk {k : Nat} (hk : k ≤ 9) : Sm (val ⟨(k : Int), 1⟩) := by
  rw [val_int]
  unfold Sm
  rw [Rat.num_intCast, Rat.den_intCast]
  omega
/-- Mul by k. -/
theorem mulk_c (c : Rq) (k : Nat) (w : World) (hk : k ≤ 9) (hc : okQ c = true) (hs : Sm (val c)) : Calls Try.prog 8 #[rqv c, rqv ⟨(k : Int), 1⟩] w fun e w' => e = .returned (.tuple #[rqv (scq k c), .int .i64 0]) ∧ Below w.heap.size w w' := by
  have h := mul_q c ⟨(k : Int), 1⟩ w hc (okQ_int (by omega)) hs (sm_kk hk) (by
    rw [val_int, Rat.num_intCast]
    have := Nat.mul_le_mul hs.1 (show (k : Int).natAbs ≤ 9 by omega)
    omega)
  rw [val_int, Rat.intCast_natCast] at h
  exact h
end Go.Proofs.Ytjalegdfofogcaa
