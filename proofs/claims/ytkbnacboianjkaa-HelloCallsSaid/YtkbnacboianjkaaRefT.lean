/- Hello: the reference's Receive whole; its Tick. -/
import Derived.Test.YtkbnacboianjkaaRefVY
namespace Go.Proofs.Ytkbnacboianjkaa
set_option linter.unusedVariables false
set_option linter.unusedSimpArgs false
open Go.RowKit
theorem rrecv_c (t : Tb) (port : Int) (m : Msg) (A : Option Addr) (k : Nat) (w : World) (h : RT w t A k) (hv0 : 0 ≤ t.version) (hv1 : t.version < 4611686018427387904) :
    Calls Try.prog 18 #[rval t A k, .int .i64 port, .agg #[.int .i64 m.node, .int .i64 m.inc, .int .i64 m.port, .int .i64 m.heard]] w (RNews w (recv t port m) (.int .i64 (recvE t port m))) := by
  by_cases hv : 0 ≤ port ∧ port.toNat < t.ports.length ∧ msgB m = true
  · obtain ⟨hp, hi, hm⟩ := hv
    obtain ⟨i, rfl⟩ := Int.eq_ofNat_of_zero_le hp
    have hi : i < t.ports.length := by simpa using hi
    have hs := getD_some hi
    have hE : recvE t (i : Int) m = if stale (t.ports.getD i pt0) m then 17 else 0 := by unfold recvE; rw [if_pos ⟨hp, by simpa using hi, hm⟩]; simp
    cases hst : stale (t.ports.getD i pt0) m with
    | true =>
      have hE' : recvE t (i : Int) m = 17 := by rw [hE, hst]; rfl
      have hR : recv t (i : Int) m = t := by unfold recv; rw [hE', if_neg (by decide)]
      rw [hE', hR]
      refine (rrecvStale_c t i _ m A k w h hi hs hm hst).mono ?_
      rintro e w' ⟨rfl, hT, hb⟩
      exact ⟨A, k, rfl, hT, hb⟩
    | false =>
      have hE' : recvE t (i : Int) m = 0 := by rw [hE, hst]; rfl
      have hR : recv t (i : Int) m = recvAt t i (t.ports.getD i pt0) m := by unfold recv; rw [hE', if_pos rfl]; simp
      rw [hE', hR]
      exact rrecvYes_c t i _ m A k w h hi hs hm hv0 hv1 hst
  · have hE : recvE t port m = 2 := by unfold recvE; rw [if_neg hv]
    have hR : recv t port m = t := by unfold recv; rw [hE, if_neg (by decide)]
    rw [hE, hR]
    refine (rrecvBad_c t port m A k w h hv).mono ?_
    rintro e w' ⟨rfl, hT, hb⟩
    exact ⟨A, k, rfl, hT, hb⟩
/-- The reference's table while it ticks. -/
structure TK (w W : World) (t : Tb) (g k : Nat) (tk ver : Int) (L : List RP) : Prop where
  b0 : Blk W w.heap.size 35 #[.int .i64 t.node, .int .i64 t.inc, .int .i64 t.every, .int .i64 t.dead, .slice (some ⟨g, 0, none⟩) t.ports.length k, .int .i64 tk, .int .i64 ver]
  b2 : Blk W (w.heap.size + 1) 35 #[.int .i64 0, .int .i64 0, .int .i64 0, .int .i64 0, .slice none 0 0, .int .i64 0, .int .i64 0]
  own : W.ownsRow (w.heap.size + 2) 54 5 (.slice (some ⟨g, 0, none⟩) t.ports.length k) t.ports.length (rrow L)
  blw : Below w.heap.size w W
  hg : w.heap.size + 2 ≤ g
  len : L.length = t.ports.length
theorem own_set7 {w : World} {B sz n : Nat} {e : TypeId} {v : Value} {xs : List Value} (h : w.ownsRow B e sz v n xs) {b : Nat} (hb : b < B) (o : Nat) (u : Value) : (w.setCell ⟨b, o, none⟩ u).ownsRow B e sz v n xs :=
  own_move h fun g hg => Below.heap_setCell w ⟨b, o, none⟩ u g (by have := (h.lt g hg).1; simp only; omega)
section
variable {w W W' : World} {t : Tb} {g k : Nat} {tk ver : Int} {L : List RP}
theorem TK.new_ (h : TK w W t g k tk ver L) (hb : Below W.heap.size W W') : TK w W' t g k tk ver L := ⟨h.b0.new_ hb, h.b2.new_ hb, own_new h.own hb, join h.blw hb, h.hg, h.len⟩
theorem TK.drewN (h : TK w W t g k tk ver L) (n : Nat) : TK w (W.drewN n) t g k tk ver L := h.new_ (dN (Below.refl _ _) n)
theorem TK.tk5 (h : TK w W t g k tk ver L) (x : Int) : TK w (W.setCell ⟨w.heap.size, 5, none⟩ (.int .i64 x)) t g k x ver L := by
  have hg := h.hg
  exact ⟨h.b0.to 5 _ rfl, h.b2.far (by simp only; omega) _, own_set7 h.own (by omega) _ _, h.blw.setCell (Nat.le_refl _) _, h.hg, h.len⟩
theorem TK.vers (h : TK w W t g k tk ver L) (x : Int) : TK w (W.setCell ⟨w.heap.size, 6, none⟩ (.int .i64 x)) t g k tk x L := by
  have hg := h.hg
  exact ⟨h.b0.to 6 _ rfl, h.b2.far (by simp only; omega) _, own_set7 h.own (by omega) _ _, h.blw.setCell (Nat.le_refl _) _, h.hg, h.len⟩
theorem TK.put (h : TK w W t g k tk ver L) {i : Nat} {r r' : RP} (hr : L[i]? = some r) (j : Nat) (v : Value) (hj : j < 5) (hv : (rpc r).set j v = rpc r') : TK w (W.setCell ⟨g, i * 5 + j, none⟩ v) t g k tk ver (L.set i r') := by
  have hg := h.hg
  refine ⟨h.b0.far (by simp only; omega) _, h.b2.far (by simp only; omega) _, ?_, h.blw.setCell (by simp only; omega) _, h.hg, by rw [List.length_set]; exact h.len⟩
  rw [← rrow_set hr hj hv]
  exact (World.ownsRow.stored h.own (i * 5 + j) v).1
theorem TK.at_ (h : TK w W t g k tk ver L) {i : Nat} {r : RP} (hr : L[i]? = some r) :
    (W.cell? ⟨g, i * 5, none⟩ = some (.int .i64 r.s) ∧ W.frozen? ⟨g, i * 5, none⟩ = false) ∧ (W.cell? ⟨g, i * 5 + 1, none⟩ = some (.int .i64 r.n)) ∧ (W.cell? ⟨g, i * 5 + 2, none⟩ = some (.int .i64 r.i)) ∧ (W.cell? ⟨g, i * 5 + 3, none⟩ = some (.int .i64 r.t)) ∧ (W.cell? ⟨g, i * 5 + 4, none⟩ = some (.int .i64 r.q) ∧ W.frozen? ⟨g, i * 5 + 4, none⟩ = false) := by
  have hl := h.own.1
  rw [rrow_len] at hl
  have c := fun j v (hj : (rpc r)[j]? = some v) (hj5 : j < 5) => (World.ownsRow.cellAt h.own (i * 5 + j) (by have := (List.getElem?_eq_some_iff.1 hr).1; omega)).trans (rrow_get hr hj)
  exact ⟨⟨c 0 _ rfl (by omega), World.ownsRow.frozenAt h.own _⟩, c 1 _ rfl (by omega), c 2 _ rfl (by omega), c 3 _ rfl (by omega), c 4 _ rfl (by omega), World.ownsRow.frozenAt h.own _⟩
theorem TK.lt (h : TK w W t g k tk ver L) : g < W.heap.size := row_lt5 h.own
end
/-- The ports, the first i of them after the tick. -/
def mixL (t : Tb) (i : Nat) : List RP := (t.ports.take i).map (fun p => rof (t.ticks + 1) (fade t.dead (t.ticks + 1) p)) ++ (t.ports.drop i).map (rof t.ticks)
theorem mixL_zero (t : Tb) : mixL t 0 = rports t := by simp [mixL, rports]
theorem mixL_all (t : Tb) : mixL t t.ports.length = rports (tick t) := by
  simp [mixL, rports, tick]
theorem mixL_len (t : Tb) (i : Nat) (h : i ≤ t.ports.length) : (mixL t i).length = t.ports.length := by simp [mixL]; omega
theorem mixL_at {t : Tb} {i : Nat} {p : Pt} (h : t.ports[i]? = some p) : (mixL t i)[i]? = some (rof t.ticks p) := by
  have hi := (List.getElem?_eq_some_iff.1 h).1
  unfold mixL
  rw [List.getElem?_append_right (by simp; omega)]
  simp [Nat.min_eq_left (Nat.le_of_lt hi), h]
theorem mixL_next {t : Tb} {i : Nat} {p : Pt} (h : t.ports[i]? = some p) : mixL t (i + 1) = (mixL t i).set i (rof (t.ticks + 1) (fade t.dead (t.ticks + 1) p)) := by
  obtain ⟨hi, e⟩ := List.getElem?_eq_some_iff.1 h
  unfold mixL
  rw [List.take_succ_eq_append_getElem hi, e, List.map_append, List.append_assoc, List.set_append_right _ _ (by simp; omega)]
  congr 1
  rw [List.drop_eq_getElem_cons hi, List.length_map, List.length_take, Nat.min_eq_left (Nat.le_of_lt hi), Nat.sub_self]
  rfl
theorem rof_fade (t : Tb) (p : Pt) : rof (t.ticks + 1) (fade t.dead (t.ticks + 1) p) = ⟨if fades t.dead (t.ticks + 1) p then 0 else p.state, (rof t.ticks p).n, p.last.inc, p.last.port, t.ticks - p.since + 1⟩ := by
  unfold fade
  cases fades t.dead (t.ticks + 1) p
  · simp only [rof, Bool.false_eq_true, if_false, RP.mk.injEq, true_and]; omega
  · simp only [rof, if_true, RP.mk.injEq, true_and]; omega
theorem fadeN_next {t : Tb} {i : Nat} {p : Pt} (h : t.ports[i]? = some p) : fadeN t.dead (t.ticks + 1) (t.ports.take (i + 1)) = fadeN t.dead (t.ticks + 1) (t.ports.take i) + if fades t.dead (t.ticks + 1) p then 1 else 0 := by
  obtain ⟨hi, e⟩ := List.getElem?_eq_some_iff.1 h
  rw [List.take_succ_eq_append_getElem hi, e, fadeN_snoc]
theorem own_grown {w w' : World} {B B2 sz sz2 n n2 : Nat} {e e2 : TypeId} {v v2 : Value} {xs xs2 : List Value} (h : w.ownsRow B e sz v n xs) (hr : w.ownsRow B2 e2 sz2 v2 n2 xs2) (hne : e ≠ e2) (hg : w.grownBy w' v2.ownBlock) : w'.ownsRow B e sz v n xs :=
  own_move h fun x hx => hg.block x (h.lt x hx).2 (fun e' => by
    rcases h.2 with ⟨h1, _⟩ | ⟨g1, c1, u1, h1, _, h3, _⟩
    · rw [h1] at hx; simp [Value.ownBlock] at hx
    · rcases hr.2 with ⟨k1, _⟩ | ⟨g2, c2, u2, k1, _, k3, _⟩
      · rw [k1] at e'; simp [Value.ownBlock] at e'
      · rw [h1] at hx; rw [k1] at e'
        have a1 : g1 = x := by simpa [Value.ownBlock] using hx
        have a2 : x = g2 := by simpa [Value.ownBlock] using e'
        subst a1; subst a2
        rw [h3] at k3
        injection k3 with k3
        injection k3 with _ k3
        exact hne k3)
end Go.Proofs.Ytkbnacboianjkaa
