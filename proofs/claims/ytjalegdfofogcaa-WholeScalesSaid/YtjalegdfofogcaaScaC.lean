/- WholeScales: the net with a copied link, put together by append; its flows' links lie where they lay or in rows of their own. -/
import Derived.Test.YtjalegdfofogcaaScaB
namespace Go.Proofs.Ytjalegdfofogcaa
set_option linter.unusedVariables false
set_option linter.unusedSimpArgs false
open Go.RowKit
theorem Reads.put {w : World} {B sz n g b o : Nat} {xs : List Value} {u : Value} (h : Reads w B sz (some ⟨g, 0, none⟩) n xs) (hne : g ≠ b) : Reads (w.setCell ⟨b, o, none⟩ u) B sz (some ⟨g, 0, none⟩) n xs :=
  ⟨h.1, fun hn => by
    obtain ⟨ad, e, hb, hc⟩ := h.2 hn
    refine ⟨ad, e, hb, fun j v hv => (World.cell?_setCell_other _ _ _ _ (fun e9 => ?_)).trans (hc j v hv)⟩
    injection e with e
    have h1 := block_of_add ad j
    rw [← e] at h1 e9
    rw [← e9] at h1
    exact hne h1.symm⟩
/-- The links of a flow lie in the memory that came in, or in a row of the call's own. -/
def SubAt (w W : World) (b : Nat) (p : PFlow) : Prop :=
  (FlowAt W w.heap.size p ∨ W.ownsRow b 3 1 (.slice p.A p.ls.length p.kap) p.ls.length (p.ls.flatMap icell)) ∧ (R64 p.d.n ∧ R64 p.d.d)
structure TA (w W : World) (n : PNet) (gq : Nat) (rs : List Rq) (bx : Nat) (vc vf : Value) (cs : List Rq) (fs : List PFlow) (b0 b : Nat) : Prop where
  x : Blk W w.heap.size 25 #[.slice n.cA n.caps.length n.ck, .slice n.fA n.flows.length n.fk]
  net : NetAt W w.heap.size n
  rr : RowBlk W gq 32 ccell rs
  sb : Blk W bx 25 #[vc, vf]
  oc : W.ownsRow b0 32 2 vc cs.length (cs.flatMap ccell)
  of : W.ownsRow b 37 4 vf fs.length (fs.flatMap fcell)
  sub : ∀ p ∈ fs, SubAt w W b p
  blw : Below w.heap.size w W
  lo : w.heap.size < gq ∧ w.heap.size < bx ∧ bx < b ∧ gq < b ∧ w.heap.size < b0 ∧ b0 ≤ b ∧ b ≤ W.heap.size
section
variable {w W W' : World} {n : PNet} {gq : Nat} {rs : List Rq} {bx : Nat} {vc vf : Value} {cs : List Rq} {fs : List PFlow} {b0 b : Nat}
theorem SubAt.new_ {p : PFlow} (h : SubAt w W b p) (hb : Below W.heap.size W W') (hw : w.heap.size ≤ W.heap.size) : SubAt w W' b p := by
  refine ⟨?_, h.2⟩
  rcases h.1 with h1 | h1
  · exact .inl ⟨h1.rd.keep fun q hq => hb.cell (by omega), h1.le, h1.mx, h1.r64⟩
  · exact .inr (own_new h1 hb)
theorem TA.new_ (h : TA w W n gq rs bx vc vf cs fs b0 b) (hb : Below W.heap.size W W') : TA w W' n gq rs bx vc vf cs fs b0 b :=
  ⟨h.x.new_ hb, h.net.keep (B' := w.heap.size) (fun p hp => hb.cell (by have := h.x.lt; omega)), h.rr.new_ hb, h.sb.new_ hb, own_new h.oc hb, own_new h.of hb, fun p hp => (h.sub p hp).new_ hb h.blw.size, join h.blw hb, by have := h.lo; have := hb.size; omega⟩
theorem TA.alloc (h : TA w W n gq rs bx vc vf cs fs b0 b) (o : Obj) : TA w (W.alloc o) n gq rs bx vc vf cs fs b0 b := h.new_ ((Below.refl _ _).alloc (Nat.le_refl _) o)
theorem TA.far (h : TA w W n gq rs bx vc vf cs fs b0 b) {p : Addr} (hp : b ≤ p.block) (hall : ∀ {e : TypeId} {k sz m : Nat} {v : Value} {xs : List Value}, W.ownsRow k e sz v m xs → (e = 32 ∨ e = 3 ∨ v = vf) → ∀ q, v.ownBlock = some q → q ≠ p.block) (u : Value) : TA w (W.setCell p u) n gq rs bx vc vf cs fs b0 b := by
  have hl := h.lo
  refine ⟨h.x.far (by omega) u, h.net.keep (B' := w.heap.size) (fun q hq => World.cell?_setCell_other _ _ _ _ (fun e => by subst e; omega)), h.rr.far (by omega) u, h.sb.far (by omega) u,
    own_move h.oc (fun q hq => Below.heap_setCell _ _ _ q (hall h.oc (.inl rfl) q hq)), own_move h.of (fun q hq => Below.heap_setCell _ _ _ q (hall h.of (.inr (.inr rfl)) q hq)), fun p9 hp9 => ⟨?_, (h.sub p9 hp9).2⟩, h.blw.setCell (by omega) u, by simp only [World.size_setCell]; exact hl⟩
  rcases (h.sub p9 hp9).1 with h1 | h1
  · exact .inl ⟨h1.rd.keep fun q hq => World.cell?_setCell_other _ _ _ _ (fun e => by subst e; omega), h1.le, h1.mx, h1.r64⟩
  · exact .inr (own_move h1 (fun q hq => Below.heap_setCell _ _ _ q (hall h1 (.inr (.inl rfl)) q hq)))
theorem TA.growF {vf' : Value} {x : PFlow} (h : TA w W n gq rs bx vc vf cs fs b0 b) (hx : SubAt w W b x) (ho : W'.ownsRow b 37 4 vf' (fs.length + 1) (fs.flatMap fcell ++ fcell x)) (hw : W.grownBy W' vf.ownBlock) : TA w (W'.setCell ⟨bx, 1, none⟩ vf') n gq rs bx vc vf' cs (fs ++ [x]) b0 b := by
  obtain ⟨l1, l2, l3, l4, l5, l6, l7⟩ := h.lo
  have hrow : ∀ q, vf.ownBlock = some q → b ≤ q := fun q hq => (h.of.lt q hq).1
  have hO := (OnlyP.refl (fun q => b ≤ q) W).grown hw (fun q hq => .inl (hrow q hq))
  have hgq : gq ≠ bx := Blk.ne_ h.rr h.sb (by decide)
  have hcb : vc.ownBlock ≠ some bx := own_blk_ne h.oc h.sb (by decide)
  have mv : ∀ {e : TypeId} {sz k : Nat} {u : Value} {xs : List Value}, W'.ownsRow b e sz u k xs → (W'.setCell ⟨bx, 1, none⟩ vf').ownsRow b e sz u k xs := fun hh => own_move hh fun q hq => Below.heap_setCell _ _ _ q (by have := (hh.lt q hq).1; simp only; omega)
  have sv : ∀ {p : PFlow}, SubAt w W b p → SubAt w (W'.setCell ⟨bx, 1, none⟩ vf') b p := fun {p} hs => by
    refine ⟨?_, hs.2⟩
    rcases hs.1 with h1 | h1
    · refine .inl ⟨h1.rd.keep fun q hq => ?_, h1.le, h1.mx, h1.r64⟩
      rw [World.cell?_setCell_other _ _ _ _ (fun e => by subst e; simp only at hq; omega)]
      exact World.cell?_of_block (hO.block q.block (by have := h.x.lt; omega) (by omega))
    · exact .inr (mv (own_grown h1 hw (own_own_ne h1 h.of (by decide))))
  refine ⟨(h.x.only hO (by omega)).far (by simp only; omega) _, ?_, (h.rr.only hO (by omega)).far hgq _, (h.sb.only hO (by omega)).to 1 _ rfl, ?_, ?_, fun p hp => ?_, (joinP h.blw hO (fun q hq => by omega) (Nat.le_refl _)).setCell (by simp only; omega) _, by simp only [World.size_setCell]; have := hw.size; omega⟩
  · exact h.net.keep (B' := w.heap.size) (fun p hp => by rw [World.cell?_setCell_other _ _ _ _ (fun e => by subst e; simp only at hp; omega)]; exact World.cell?_of_block (hO.block p.block (by have := h.x.lt; omega) (by omega)))
  · exact own_move (own_grown h.oc hw (own_own_ne h.oc h.of (by decide))) fun q hq => Below.heap_setCell _ _ _ q (fun e => hcb (by rw [hq, e]))
  · rw [List.length_append, List.flatMap_append]
    have : ([x] : List PFlow).flatMap fcell = fcell x := by simp
    rw [this]
    exact mv ho
  · rw [List.mem_append, List.mem_singleton] at hp
    rcases hp with hp | rfl
    · exact sv (h.sub p hp)
    · exact sv hx
theorem TA.netAt (h : TA w W n gq rs bx vc vf cs fs b0 b) {A A1 : Option Addr} {k k1 : Nat} (hc : vc = .slice A cs.length k) (hf : vf = .slice A1 fs.length k1) (hr : ∀ c ∈ cs, R64 c.n ∧ R64 c.d) : NetAt W W.heap.size ⟨cs, A, k, fs, A1, k1⟩ := by
  subst hc
  subst hf
  refine ⟨RowsAt.of_own h.oc ccell_len (by omega) rfl, RowsAt.of_own h.of fcell_len (by omega) rfl, fun p hp => ?_, hr, own_cap h.oc, own_cap h.of⟩
  have hs := h.sub p hp
  rcases hs.1 with h1 | h1
  · exact ⟨h1.rd.more h.blw.size, h1.le, h1.mx, h1.r64⟩
  · exact ⟨RowsAt.of_own h1 icell_len (by omega) rfl, (own_cap h1).1, (own_cap h1).2, hs.2⟩
end
end Go.Proofs.Ytjalegdfofogcaa
