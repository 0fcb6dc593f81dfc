/- Setup: the statements' operations as they lie in memory; what an operation leaves as it was. -/
import Derived.Test.YtnmgnggchgckoaaLaw
import Derived.Test.YtnmgnggchgckoaaChain
namespace Go.Proofs.Ytnmgnggchgckoaa
set_option linter.unusedVariables false
set_option linter.unusedSimpArgs false
open Go.RowKit Go.ChangeShapes Go.WideShapes
theorem cells38 : Try.prog.cellsOf 38 = 3 := by kernel_rfl
def IsOp (cs : List Value) : Prop := ∃ a b c d e : Int, cs = [.int .i64 a, .int .i64 b, .int .i64 c, .int .i64 d, .int .i64 e]
theorem isMsg {H : Type} {enc : TypeId × Value → H} {w : World} {base : Nat} {spare : Nat → Bool} {held : Bool} (n : Nat) (cs : List Value) (y : DataW H × List MemPlace) (hl : cs.length = 3)
    (h : DataW.trod enc Try.prog w base spare held n 38 cs = some y) : ∃ c d e : Int, cs = [.int .i64 c, .int .i64 d, .int .i64 e] := by
  match cs, hl with
  | [c0, c1, c2], _ =>
    obtain ⟨ys, m, _, _, _, hyl, hf⟩ := DataW.trod_struct Try.underlying38 h
    have f0 := hf 0 _ rfl
    have f1 := hf 1 _ rfl
    have f2 := hf 2 _ rfl
    simp [cells3] at f0 f1 f2 hyl
    rw [List.getElem?_eq_getElem (by omega)] at f0 f1 f2
    obtain ⟨x0, e0, _, w0⟩ := DataW.trod_int Try.underlying3 f0
    obtain ⟨x1, e1, _, w1⟩ := DataW.trod_int Try.underlying3 f1
    obtain ⟨x2, e2, _, w2⟩ := DataW.trod_int Try.underlying3 f2
    simp at e0 e1 e2
    subst e0 e1 e2
    exact ⟨x0, x1, x2, rfl⟩
theorem isOp {H : Type} {enc : TypeId × Value → H} {w : World} {base : Nat} {spare : Nat → Bool} {held : Bool} (n : Nat) (cs : List Value) (y : DataW H × List MemPlace) (hl : cs.length = 5)
    (h : DataW.trod enc Try.prog w base spare held n 46 cs = some y) : IsOp cs := by
  match cs, hl with
  | [c0, c1, c2, c3, c4], _ =>
    obtain ⟨ys, m, _, _, _, hyl, hf⟩ := DataW.trod_struct Try.underlying46 h
    have f0 := hf 0 _ rfl
    have f1 := hf 1 _ rfl
    have f2 := hf 2 _ rfl
    simp [cells3, cells38] at f0 f1 f2 hyl
    rw [List.getElem?_eq_getElem (by omega)] at f0 f1 f2
    obtain ⟨x0, e0, _, w0⟩ := DataW.trod_int Try.underlying3 f0
    obtain ⟨x1, e1, _, w1⟩ := DataW.trod_int Try.underlying3 f1
    obtain ⟨x2, x3, x4, e2⟩ := isMsg _ _ _ rfl f2
    simp at e0 e1 e2
    obtain ⟨e2, e3, e4⟩ := e2
    subst e0 e1 e2 e3 e4
    exact ⟨x0, x1, x2, x3, x4, rfl⟩
/-- Nothing but the states has turned. -/
structure Alike (c c' : Ch) : Prop where
  conn : c'.conn = c.conn
  need : c'.need = c.need
  rooms : c'.rooms = c.rooms
  n : c'.n = c.n
theorem Alike.refl (c : Ch) : Alike c c := ⟨rfl, rfl, rfl, rfl⟩
theorem Alike.trans {a b c : Ch} (h : Alike a b) (k : Alike b c) : Alike a c := ⟨k.conn.trans h.conn, k.need.trans h.need, k.rooms.trans h.rooms, k.n.trans h.n⟩
theorem alike_put (c : Ch) (i : Nat) (s : Int) : Alike c (c.put i s) := ⟨rfl, rfl, rfl, put_n c i s⟩
theorem alike_open (c : Ch) (i : Nat) : Alike c (openP c i).1 := by
  unfold openP; repeat' split
  all_goals first | exact alike_put _ _ _ | exact Alike.refl _
theorem alike_close (c : Ch) (i : Nat) : Alike c (closeP c i).1 := by
  unfold closeP; repeat' split
  all_goals first | exact alike_put _ _ _ | exact Alike.refl _
theorem alike_turn (c : Ch) (i : Nat) (a b k : Int) : Alike c (turnP c i a b k).1 := by
  unfold turnP; repeat' split
  all_goals first | exact alike_put _ _ _ | exact Alike.refl _
theorem alike_start (c : Ch) : Alike c (startP c).1 := by
  unfold startP; split
  · exact alike_open _ _
  · exact Alike.refl _
theorem alike_stop (c : Ch) : Alike c (stopP c).1 := by
  unfold stopP; split
  · exact alike_close _ _
  · exact Alike.refl _
theorem alike_rule (c : Ch) (m : Msg) : Alike c (ruleP c m).1 := by
  unfold ruleP; repeat' split
  all_goals first | exact alike_open _ _ | exact alike_close _ _ | exact alike_turn _ _ _ _ _
theorem alike_recv (c : Ch) (m : Msg) : Alike c (recvP c m).1 := by
  unfold recvP; repeat' split
  all_goals first | exact alike_rule _ _ | exact Alike.refl _
theorem alike_step (c : Ch) (fly : List Msg) (kind : Int) (i : Nat) : Alike c (stepAt c fly kind i).1 := by
  unfold stepAt; repeat' split
  all_goals first | exact alike_start _ | exact alike_stop _ | exact alike_recv _ _ | exact Alike.refl _
theorem step_len {c : Ch} (h : Ok c) (fly : List Msg) (kind : Int) (i : Nat) : (stepAt c fly kind i).2.length ≤ 220 := by
  have h1 := startP_len c
  have h2 := stopP_len c
  have h3 := recvP_len c (fly.getD i ⟨0, 0, 0⟩)
  have h4 := repP_len h
  unfold stepAt
  repeat' split
  all_goals simp only [List.length_append, List.length_take, List.length_nil] at *; try omega
/-- The world of a round over the operations. -/
structure OpW (w : World) (L : Loc) (A : Option Addr) (B B2 : Nat) (l : List Int) (need : Int) (c : Ch) (fly : List Msg) (v : Value) (wr : World) : Prop where
  inv : Inv c fly
  conn : c.conn = 5
  len : fly.length ≤ 1000
  rooms : c.rooms = l
  need : c.need = need
  own : wr.ownsRow B2 38 3 v fly.length (mcells fly)
  ch : IsCh wr L c
  list : Reads wr B 1 A l.length (iv l)
  low : Low L B2
  lowS : B ≤ L.S
  base : w.heap.size ≤ B
  big : B2 ≤ wr.heap.size
  below : Below w.heap.size w wr
theorem opW_start {w wr : World} {L : Loc} {A : Option Addr} {kap B : Nat} {l : List Int} {need : Int} (hf : fitsB 5 l need = true) (h : Chains w (start0 5 l need) l L A kap B wr) : OpW w L A B wr.heap.size l need (start0 5 l need) [] (.slice none 0 0) wr :=
  ⟨inv_zero hf, rfl, by simp, rfl, rfl, World.ownsRow_nil _ _ _ _, h.ch, h.list, ⟨h.ch.tab.lt, h.ch.rlt, h.ch.row.lt⟩, h.S, h.low, Nat.le_refl _, h.below⟩
theorem OpW.n {w wr : World} {L : Loc} {A : Option Addr} {B B2 : Nat} {l : List Int} {need : Int} {c : Ch} {fly : List Msg} {v : Value} (h : OpW w L A B B2 l need c fly v wr) : c.n = l.length := by rw [← h.rooms]; exact h.inv.ok.len.symm
theorem OpW.new_ {w wr w1 : World} {L : Loc} {A : Option Addr} {B B2 : Nat} {l : List Int} {need : Int} {c : Ch} {fly : List Msg} {v : Value} (h : OpW w L A B B2 l need c fly v wr) (hb : Below wr.heap.size wr w1) : OpW w L A B B2 l need c fly v w1 :=
  ⟨h.inv, h.conn, h.len, h.rooms, h.need, own_new h.own hb, h.ch.new_ hb, h.list.below (hb.mono (by have := h.lowS; have := h.low.S; have := h.big; omega)), h.low, h.lowS, h.base, Nat.le_trans h.big hb.size, join h.below hb⟩
theorem OpW.drewN {w wr : World} {L : Loc} {A : Option Addr} {B B2 : Nat} {l : List Int} {need : Int} {c : Ch} {fly : List Msg} {v : Value} (h : OpW w L A B B2 l need c fly v wr) (n : Nat) : OpW w L A B B2 l need c fly v (wr.drewN n) :=
  h.new_ (dN (Below.refl _ _) n)
theorem opW_step {w wr w1 : World} {L : Loc} {A : Option Addr} {B B2 : Nat} {l : List Int} {need : Int} {c : Ch} {fly : List Msg} {v v' : Value} {kind : Int} {i : Nat} (h : OpW w L A B B2 l need c fly v wr) (hi : 0 < fly.length → i < fly.length)
    (ho : w1.ownsRow B2 38 3 v' (stepAt c fly kind i).2.length (mcells (stepAt c fly kind i).2)) (hc : IsCh w1 L (stepAt c fly kind i).1) (hb : OnlyP (fun x => x = L.S) wr w1) : OpW w L A B B2 l need (stepAt c fly kind i).1 (stepAt c fly kind i).2 v' w1 :=
  have ha := alike_step c fly kind i
  ⟨inv_step h.inv kind i hi, ha.conn.trans h.conn, Nat.le_trans (step_len h.inv.ok fly kind i) (by omega), ha.rooms.trans h.rooms, ha.need.trans h.need, ho, hc,
    reads_only h.list hb (by rintro k rfl; exact h.lowS) (by have := h.lowS; have := h.low.S; have := h.big; omega), h.low, h.lowS, h.base, Nat.le_trans h.big hb.size,
    h.below.trans (hb.below (B := w.heap.size) (by rintro k rfl; exact Nat.le_trans h.base h.lowS) h.below.size)⟩
theorem Drewn.opW {w wr wr' : World} {L : Loc} {A : Option Addr} {B B2 : Nat} {l : List Int} {need : Int} {c : Ch} {fly : List Msg} {v : Value} (hd : Drewn wr wr') (h : OpW w L A B B2 l need c fly v wr) : OpW w L A B B2 l need c fly v wr' := by
  obtain ⟨k, rfl⟩ := hd; exact h.drewN k
/-- The base is an earlier world. -/
theorem OpW.rebase {w w0 wr : World} {L : Loc} {A : Option Addr} {B B2 : Nat} {l : List Int} {need : Int} {c : Ch} {fly : List Msg} {v : Value} (h : OpW w0 L A B B2 l need c fly v wr) (hb : Below w.heap.size w w0) : OpW w L A B B2 l need c fly v wr :=
  ⟨h.inv, h.conn, h.len, h.rooms, h.need, h.own, h.ch, h.list, h.low, h.lowS, Nat.le_trans hb.size h.base, h.big, join hb h.below⟩
end Go.Proofs.Ytnmgnggchgckoaa
