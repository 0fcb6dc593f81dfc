/- Setup: the reference's Receive whole; both sides' operations side by side. -/
import Derived.Test.YtnmgnggchgckoaaRefK1
import Derived.Test.YtnmgnggchgckoaaRefK2
import Derived.Test.YtnmgnggchgckoaaRefK3
import Derived.Test.YtnmgnggchgckoaaRefK4
import Derived.Test.YtnmgnggchgckoaaRefK5
import Derived.Test.YtnmgnggchgckoaaRefN
import Derived.Test.YtnmgnggchgckoaaRefH
import Derived.Test.YtnmgnggchgckoaaRecvB
import Derived.Test.YtnmgnggchgckoaaOps
import Derived.Test.YtnmgnggchgckoaaSame
import Derived.Deep.CutBlock
namespace Go.Proofs.Ytnmgnggchgckoaa
set_option linter.unusedVariables false
set_option linter.unusedSimpArgs false
open Go.RowKit
section
variable {c : Ch} {gA k gD m : Nat} {w : World}
theorem rrecv_c (q : Msg) (h : RefV w c (at4 gA k gD m)) :
    Calls Try.prog 26 #[.agg #[.int .i64 c.conn, .int .i64 c.need, .slice (some ⟨gA, 0, none⟩) c.n k, .slice (some ⟨gD, 0, none⟩) c.n m], .agg #[.int .i64 q.kind, .int .i64 q.conn, .int .i64 q.dest]] w (RRx w gA gD (recvP c q)) := by
  by_cases hk : q.kind < 1 ∨ 5 < q.kind
  · exact rrecv_kind q h hk
  by_cases hc : q.conn = c.conn
  · obtain ⟨kd, cn, d⟩ := q
    simp only at hk hc
    subst hc
    rcases (by omega : kd = 1 ∨ kd = 2 ∨ kd = 3 ∨ kd = 4 ∨ kd = 5) with rfl | rfl | rfl | rfl | rfl
    · exact rrecv_1 d h
    · exact rrecv_2 d h
    · exact rrecv_3 d h
    · exact rrecv_4 d h
    · exact rrecv_5 d h
  · exact rrecv_conn q h hk hc
end
/-! ### the last hop waits for nobody -/
theorem LastOk.put {c : Ch} (h : LastOk c) {i : Nat} {s : Int} (hi : i < c.n) (hs : s = 1 ∨ s = 4 → i + 1 < c.n) : LastOk (c.put i s) := fun j hj h14 => by
  rw [put_n] at hj ⊢
  rw [put_st c s j hi] at h14
  by_cases e : j = i
  · subst e; rw [if_pos rfl] at h14; exact hs h14
  · rw [if_neg e] at h14; exact h j hj h14
theorem LastOk.open_ {c : Ch} (h : LastOk c) {i : Nat} (hi : i < c.n) : LastOk (openP c i).1 := by
  unfold openP
  repeat' split
  all_goals first | exact h | exact h.put hi (by omega)
theorem LastOk.close_ {c : Ch} (h : LastOk c) {i : Nat} (hi : i < c.n) : LastOk (closeP c i).1 := by
  unfold closeP
  repeat' split
  all_goals first | exact h | exact h.put hi (by omega)
theorem LastOk.turn_ {c : Ch} (h : LastOk c) {i : Nat} (hi : i < c.n) {a b k : Int} (hb : ¬ (b = 1 ∨ b = 4)) : LastOk (turnP c i a b k).1 := by
  unfold turnP
  split
  · exact h.put hi (fun e => absurd e hb)
  · exact h
theorem LastOk.start {c : Ch} (h : LastOk c) (ho : Ok c) : LastOk (startP c).1 := by
  unfold startP; split
  · exact h.open_ (by have := ho.n1; omega)
  · exact h
theorem LastOk.stop {c : Ch} (h : LastOk c) (ho : Ok c) : LastOk (stopP c).1 := by
  unfold stopP; split
  · exact h.close_ (by have := ho.n1; omega)
  · exact h
theorem LastOk.recv {c : Ch} (h : LastOk c) (q : Msg) : LastOk (recvP c q).1 := by
  unfold recvP
  split
  · exact h
  · split
    · exact h
    · split
      · rename_i hb
        simp only [Bool.and_eq_true] at hb
        have hh := hasB_iff.1 hb.1
        have hi : q.dest.toNat < c.n := by omega
        unfold ruleP
        repeat' split
        · exact h.open_ hi
        · exact h.turn_ hi (by omega)
        · exact h.turn_ hi (by omega)
        · exact h.close_ hi
        · exact h.turn_ hi (by omega)
      · exact h
theorem lastOk_start {conn need : Int} {l : List Int} : LastOk (start0 conn l need) := fun i hi h => by
  have : (start0 conn l need).st i = 0 := by
    simp only [start0, Ch.st, List.getD_eq_getElem?_getD, List.getElem?_replicate]
    split <;> rfl
  rw [this] at h
  omega
theorem alike_recv' (c : Ch) (q : Msg) : Alike c (recvP c q).1 := by
  unfold recvP
  repeat' split
  · exact Alike.refl _
  · exact Alike.refl _
  · unfold ruleP
    repeat' split
    all_goals first | exact alike_open _ _ | exact alike_close _ _ | exact alike_turn _ _ _ _ _
  · exact Alike.refl _
theorem state_at' {c : Ch} {i : Nat} (hi : i < c.n) : stateP c i = c.st i := by
  have hb : c.hasB i = true := hasB_iff.2 ⟨by omega, by omega⟩
  simp [stateP, hb]
/-- Where the reference's chain lies. -/
structure Rf where
  c : Ch
  gA : Nat
  k : Nat
  gD : Nat
  m : Nat
/-- Both sides in memory. -/
structure RunW (w : World) (L : Loc) (A : Option Addr) (B B2 bs : Nat) (l : List Int) (c : Ch) (R Rb : Rf) (fly : List Msg) (v : Value) (wr : World) : Prop where
  ch : IsCh wr L c
  ref : RefV wr R.c (at4 R.gA R.k R.gD R.m)
  bx : Blk wr bs 51 #[.int .i64 Rb.c.conn, .int .i64 Rb.c.need, .slice (some ⟨Rb.gA, 0, none⟩) Rb.c.n Rb.k, .slice (some ⟨Rb.gD, 0, none⟩) Rb.c.n Rb.m]
  own : wr.ownsRow B2 38 3 v fly.length (mcells fly)
  list : Reads wr B 1 A l.length (iv l)
  low : Low L B2
  lowS : B ≤ L.S
  base : w.heap.size ≤ B
  big : B2 ≤ wr.heap.size
  hA : B2 ≤ R.gA
  hD : B2 ≤ R.gD
  hb : B2 ≤ bs
  below : Below w.heap.size w wr
section
variable {w wr w' : World} {L : Loc} {A : Option Addr} {B B2 bs : Nat} {l : List Int} {c : Ch} {R Rb : Rf} {fly : List Msg} {v : Value}
theorem RunW.new_ (h : RunW w L A B B2 bs l c R Rb fly v wr) (hb : Below wr.heap.size wr w') : RunW w L A B B2 bs l c R Rb fly v w' :=
  ⟨h.ch.new_ hb, h.ref.new_ hb, h.bx.new_ hb, own_new h.own hb, h.list.below (hb.mono (by have := h.lowS; have := h.low.S; have := h.big; omega)), h.low, h.lowS, h.base, Nat.le_trans h.big hb.size, h.hA, h.hD, h.hb, join h.below hb⟩
def RowP (B2 : Nat) (w : World) (v : Value) (ms : List Msg) : Prop := w.ownsRow B2 38 3 v ms.length (mcells ms)
def RowR (B2 : Nat) (w : World) (v : Value) (ms : List Msg) : Prop := w.ownsRow B2 58 3 v ms.length (mcells ms)
theorem RowP.new_ {ms : List Msg} (h : RowP B2 wr v ms) (hb : Below wr.heap.size wr w') : RowP B2 w' v ms := own_new h hb
theorem RowR.new_ {ms : List Msg} (h : RowR B2 wr v ms) (hb : Below wr.heap.size wr w') : RowR B2 w' v ms := own_new h hb
theorem blk_keep {g : Nat} {t : TypeId} {cs : Array Value} {S : Nat → Prop} (h : Blk wr g t cs) (hk : OnlyP S wr w') (hn : ¬ S g) : Blk w' g t cs := (hk.block g h.lt hn).trans h
theorem RefV.only {gA k gD m : Nat} {S : Nat → Prop} {c : Ch} (h : RefV wr c (at4 gA k gD m)) (hk : OnlyP S wr w') (h1 : ¬ S gA) (h2 : ¬ S gD) : RefV w' c (at4 gA k gD m) := by
  obtain ⟨g, cur, e, b1, b2⟩ := h.roomsR
  obtain ⟨g', cur', e', b1', b2'⟩ := h.stsR
  cases e
  cases e'
  exact ⟨⟨gA, cur, rfl, blk_keep b1 hk h1, b2⟩, ⟨gD, cur', rfl, blk_keep b1' hk h2, b2'⟩, h.ok⟩
/-- The program goes on. -/
theorem RunW.prog {r : Ch × List Msg × Int} {e : Ending} (h : RunW w L A B B2 bs l c R Rb fly v wr) (hu : Recvs wr L r e w') : ∃ v2, e = .returned (.tuple #[v2, .int .i64 r.2.2]) ∧ RunW w L A B B2 bs l r.1 R Rb fly v w' ∧ RowP B2 w' v2 r.2.1 ∧ (∀ (g : Nat) (t : TypeId) (cs : Array Value), Blk wr g t cs → t ≠ 3 → Blk w' g t cs) := by
  obtain ⟨v2, rfl, ho, hc, hk⟩ := hu
  have hz := h.below.size
  have hS := h.low.S
  have hA := h.hA
  have hD := h.hD
  have hB := h.hb
  have hbig := h.big
  have hbase := h.base
  have hlS := h.lowS
  refine ⟨v2, rfl, ⟨hc, h.ref.only hk (by show ¬ R.gA = L.S; omega) (by show ¬ R.gD = L.S; omega), blk_keep h.bx hk (by show ¬ bs = L.S; omega), own_only h.own hk (by rintro g rfl; exact hS), reads_only h.list hk (by rintro g rfl; exact hlS) (by omega), h.low, h.lowS, h.base, Nat.le_trans h.big hk.size, hA, hD, hB, h.below.trans (hk.below (B := w.heap.size) (by rintro g rfl; omega) hz)⟩, ownsRow_base ho h.big, fun g t cs hb ht => blk_keep hb hk (fun e => ht (by subst e; have hr : Blk wr L.S 3 _ := h.ch.row; unfold Blk at hb hr; rw [hr] at hb; injection hb with hb; injection hb with _ hb; exact hb.symm))⟩
/-- The reference goes on. -/
theorem RunW.ref_ {r : Ch × List Msg × Int} {e : Ending} (h : RunW w L A B B2 bs l c R Rb fly v wr) (hu : RRx wr R.gA R.gD r e w') : ∃ (gA k gD m : Nat) (v3 : Value), e = .returned (.tuple #[.agg #[.int .i64 r.1.conn, .int .i64 r.1.need, .slice (some ⟨gA, 0, none⟩) r.1.n k, .slice (some ⟨gD, 0, none⟩) r.1.n m], v3, .int .i64 r.2.2]) ∧
    RunW w L A B B2 bs l c ⟨r.1, gA, k, gD, m⟩ Rb fly v w' ∧ RowR B2 w' v3 r.2.1 ∧ Below wr.heap.size wr w' := by
  obtain ⟨gA, k, gD, m, v3, rfl, hr, ho, hb, hf⟩ := hu
  have h' := h.new_ hb
  have hbig := h.big
  have hA := h.hA
  have hD := h.hD
  refine ⟨gA, k, gD, m, v3, rfl, ⟨h'.ch, hr, h'.bx, h'.own, h'.list, h'.low, h'.lowS, h'.base, h'.big, by show B2 ≤ gA; rw [hf.A]; exact hA, ?_, h'.hb, h'.below⟩, ownsRow_base ho hbig, hb⟩
  show B2 ≤ gD
  rcases hf.D with e | e <;> omega
theorem chain_only {p : Nat} {x y z u : Value} (hb : p < wr.heap.size) : OnlyP (fun g => g = p) wr ((((wr.setCell ⟨p, 0, none⟩ x).setCell ⟨p, 1, none⟩ y).setCell ⟨p, 2, none⟩ z).setCell ⟨p, 3, none⟩ u) :=
  ((((OnlyP.refl (fun g => g = p) wr).set (p := ⟨p, 0, none⟩) (.inl rfl) _).set (p := ⟨p, 1, none⟩) (.inl rfl) _).set (p := ⟨p, 2, none⟩) (.inl rfl) _).set (p := ⟨p, 3, none⟩) (.inl rfl) _
theorem own_keep_ne {S : Nat → Prop} {B sz n : Nat} {e : TypeId} {v : Value} {xs : List Value} (h : wr.ownsRow B e sz v n xs) (hk : OnlyP S wr w') (hn : ∀ g, v.ownBlock = some g → ¬ S g) : w'.ownsRow B e sz v n xs :=
  own_move h fun g hg => hk.block g (h.lt g hg).2 (hn g hg)
/-- The reference's chain is stored in its box. -/
theorem RunW.put (h : RunW w L A B B2 bs l c R Rb fly v wr) : RunW w L A B B2 bs l c R R fly v ((((wr.setCell ⟨bs, 0, none⟩ (.int .i64 R.c.conn)).setCell ⟨bs, 1, none⟩ (.int .i64 R.c.need)).setCell ⟨bs, 2, none⟩ (.slice (some ⟨R.gA, 0, none⟩) R.c.n R.k)).setCell ⟨bs, 3, none⟩ (.slice (some ⟨R.gD, 0, none⟩) R.c.n R.m)) := by
  have hk := chain_only (x := .int .i64 R.c.conn) (y := .int .i64 R.c.need) (z := .slice (some ⟨R.gA, 0, none⟩) R.c.n R.k) (u := .slice (some ⟨R.gD, 0, none⟩) R.c.n R.m) h.bx.lt
  have hp := h.low.p
  have hR := h.low.R
  have hS := h.low.S
  have hB := h.hb
  have hlS := h.lowS
  have hbase := h.base
  obtain ⟨gc, cur, e1, b1, _⟩ := h.ref.roomsR
  obtain ⟨gc', cur', e2, b2, _⟩ := h.ref.stsR
  cases e1
  cases e2
  refine ⟨h.ch.only hk (by show ¬ L.p = bs; omega) (by show ¬ L.R = bs; omega) (by show ¬ L.S = bs; omega), h.ref.only hk (fun e => Blk.ne_ b1 h.bx (by decide) e) (fun e => Blk.ne_ b2 h.bx (by decide) e), ch_box h.bx, own_keep_ne h.own hk (fun g hg e => by subst e; exact own_blk_ne h.own h.bx (by decide) hg), reads_only h.list hk (by rintro g rfl; omega) (by have := h.big; omega), h.low, h.lowS, h.base, Nat.le_trans h.big hk.size, h.hA, h.hD, h.hb, h.below.trans (hk.below (B := w.heap.size) (by rintro g rfl; omega) h.below.size)⟩
theorem RowP.put {ms : List Msg} {v2 : Value} {x y z u : Value} (ho : RowP B2 wr v2 ms) (h : RunW w L A B B2 bs l c R Rb fly v wr) : RowP B2 ((((wr.setCell ⟨bs, 0, none⟩ x).setCell ⟨bs, 1, none⟩ y).setCell ⟨bs, 2, none⟩ z).setCell ⟨bs, 3, none⟩ u) v2 ms :=
  own_keep_ne ho (chain_only h.bx.lt) (fun g hg e => by subst e; exact own_blk_ne ho h.bx (by decide) hg)
theorem RowR.put {ms : List Msg} {v2 : Value} {x y z u : Value} (ho : RowR B2 wr v2 ms) (h : RunW w L A B B2 bs l c R Rb fly v wr) : RowR B2 ((((wr.setCell ⟨bs, 0, none⟩ x).setCell ⟨bs, 1, none⟩ y).setCell ⟨bs, 2, none⟩ z).setCell ⟨bs, 3, none⟩ u) v2 ms :=
  own_keep_ne ho (chain_only h.bx.lt) (fun g hg e => by subst e; exact own_blk_ne ho h.bx (by decide) hg)
/-- Messages are put behind those in flight. -/
theorem RunW.app {ms : List Msg} {v' : Value} (h : RunW w L A B B2 bs l c R Rb fly v wr) (ho : w'.ownsRow B2 38 3 v' (fly.length + ms.length) (mcells fly ++ mcells ms)) (hg : wr.grownBy w' v.ownBlock) : RunW w L A B B2 bs l c R Rb (fly ++ ms) v' w' := by
  have hp := h.low.p
  have hR := h.low.R
  have hS := h.low.S
  have hlS := h.lowS
  have hbase := h.base
  have hrow : ∀ g, v.ownBlock = some g → B2 ≤ g := fun g hg' => (h.own.lt g hg').1
  have hk : OnlyP (fun g => v.ownBlock = some g) wr w' := ⟨hg.os, hg.tape, hg.output, hg.size, fun i hi hne => hg.block i hi (fun e => hne e.symm)⟩
  obtain ⟨gc, cur, e1, b1, _⟩ := h.ref.roomsR
  obtain ⟨gc', cur', e2, b2, _⟩ := h.ref.stsR
  cases e1
  cases e2
  refine ⟨h.ch.only hk (fun e => by have := hrow _ e; omega) (fun e => by have := hrow _ e; omega) (fun e => by have := hrow _ e; omega), h.ref.only hk (fun e => own_blk_ne h.own b1 (by decide) e) (fun e => own_blk_ne h.own b2 (by decide) e), blk_keep h.bx hk (fun e => own_blk_ne h.own h.bx (by decide) e), ?_, reads_only h.list hk (fun g e => by have := hrow _ e; omega) (by have := h.big; omega), h.low, h.lowS, h.base, Nat.le_trans h.big hk.size, h.hA, h.hD, h.hb, h.below.trans (hk.below (B := w.heap.size) (fun g e => by have := hrow _ e; omega) h.below.size)⟩
  rw [List.length_append, mcells_app]
  exact ho
/-- An operation as both sides carry it out. -/
structure OpS (L : Loc) (c : Ch) (gA k gD m F G : Nat) (args : List Value) (r : Ch × List Msg × Int) : Prop where
  ln : r.2.1.length ≤ 100
  last : LastOk r.1
  al : r.1.n = c.n
  cp : ∀ W, IsCh W L c → Calls Try.prog F (.pointer (some ⟨L.p, 0, none⟩) :: args).toArray W (Recvs W L r)
  cr : ∀ W, RefV W c (at4 gA k gD m) → Calls Try.prog G (.agg #[.int .i64 c.conn, .int .i64 c.need, .slice (some ⟨gA, 0, none⟩) c.n k, .slice (some ⟨gD, 0, none⟩) c.n m] :: args).toArray W (RRx W gA gD r)
theorem op_start {gA k gD m : Nat} (hl : LastOk c) (ho : Ok c) : OpS L c gA k gD m 19 25 [] (startP c) :=
  ⟨startP_len c, hl.start ho, (alike_start c).n, fun W hW => start_c c W L hW, fun W hW => rstart_c hW⟩
theorem op_stop {gA k gD m : Nat} (hl : LastOk c) (ho : Ok c) : OpS L c gA k gD m 21 27 [] (stopP c) :=
  ⟨stopP_len c, hl.stop ho, (alike_stop c).n, fun W hW => stop_c c W L hW, fun W hW => rstop_c hW⟩
theorem op_recv {gA k gD m : Nat} (q : Msg) (hl : LastOk c) : OpS L c gA k gD m 18 26 [.agg #[.int .i64 q.kind, .int .i64 q.conn, .int .i64 q.dest]] (recvP c q) :=
  ⟨recvP_len c q, hl.recv q, (alike_recv' c q).n, fun W hW => recv_c c q W L hW, fun W hW => rrecv_c q hW⟩
theorem same_t (ms : List Msg) (A A' : Option Addr) (kap kap' : Nat) (w : World) (hl : Reads w w.heap.size 3 A ms.length (mcells ms)) (hm : Reads w w.heap.size 3 A' ms.length (mcells ms)) (hn : ms.length ≤ 1000000) :
    Calls Try.prog 29 #[.slice A ms.length kap, .slice A' ms.length kap'] w fun e w' => e = .returned (.bool true) ∧ Below w.heap.size w w' := by
  have h := same_c ms ms A A' kap kap' w hl hm hn hn
  rw [decide_eq_true (rfl : ms = ms)] at h
  exact h
end
end Go.Proofs.Ytnmgnggchgckoaa
