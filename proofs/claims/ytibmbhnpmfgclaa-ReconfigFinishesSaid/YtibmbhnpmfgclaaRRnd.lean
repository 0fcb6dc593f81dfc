/- Reconfig: the rounds of the statement Finishes: what holds within a round. -/
import Derived.Test.YtibmbhnpmfgclaaRLaw
namespace Go.Proofs.Ytibmbhnpmfgclaa
set_option linter.unusedVariables false
set_option linter.unusedSimpArgs false
open Go.RowKit Go.Maps
/-- No node can come beyond the epoch E. -/
def Cap (E : Nat) (ns : List Sn) : Prop := (∃ e, e + 1 ≤ E ∧ Win e ns) ∨ ((nd ns 0).ph = 0 ∧ (nd ns 0).ep ≤ E)
section
variable {P : List Int} {ns : List Sn} {E : Nat}
theorem cap_start (h : Inv P ns) (ht : Tree P) : Cap ((nd ns 0).ep + 1) ns := by
  rcases root_ph h ht with a | a | a
  · exact .inr ⟨a, by omega⟩
  · exact .inl ⟨(nd ns 0).ep, Nat.le_refl _, .inl ⟨a, rfl⟩⟩
  · have := (h.wf 0 ht.pos).e3 a
    exact .inl ⟨(nd ns 0).ep - 1, by omega, .inr ⟨.inl a, by omega⟩⟩
theorem cap_recv (h : Inv P ns) (ht : Tree P) {m : Mg} (hm : MOk P ns m) (hc : Cap E ns) : Cap E (recvP P 0 ns m).1 := by
  rcases hc with ⟨e, he, hw⟩ | ⟨h0, he⟩
  · exact .inl ⟨e, he, (recv_fore h ht m hm).win e hw⟩
  · rw [rest_recv h ht h0 m hm]; exact .inr ⟨h0, he⟩
theorem cap_drain (h : Inv P ns) (ht : Tree P) {i : Nat} (hi : i < P.length) (hc : Cap E ns) : Cap E (drain1 P ns i) := by
  obtain ⟨_, _, _, hw, hoth, _, _⟩ := drain1_fore h ht hi
  rcases hc with ⟨e, he, hwe⟩ | ⟨h0, he⟩
  · exact .inl ⟨e, he, hw e hwe⟩
  · by_cases e0 : i = 0
    · subst e0
      have : drain1 P ns 0 = ns := by unfold drain1; rw [if_neg (by omega)]
      rw [this]; exact .inr ⟨h0, he⟩
    · have := hoth 0 (fun e => e0 e.symm)
      exact .inr ⟨by rw [this]; exact h0, by rw [this]; exact he⟩
theorem cap_ep (h : Inv P ns) (ht : Tree P) (hc : Cap E ns) (v : Nat) : (nd ns v).ep ≤ E + 1 := by
  have hr : (nd ns 0).ep ≤ E := by
    rcases hc with ⟨e, he, hw | hw⟩ | ⟨_, he⟩
    · omega
    · omega
    · exact he
  rcases Nat.lt_or_ge v P.length with hv | hv
  · have := near h ht hv ht.pos; omega
  · rw [nd_out (by rw [h.len]; exact hv)]; simp [sn0]
theorem deliverL_take {l : List Mg} {i : Nat} {m : Mg} (hm : l[i]? = some m) : deliverL P ns (l.take (i + 1)) = deliverP P (deliverL P ns (l.take i)) m := by
  unfold deliverL; rw [take_next hm, List.foldl_append]; rfl
theorem recvL_take {l : List Mg} {i : Nat} {m : Mg} (hm : l[i]? = some m) : recvL P ns (l.take (i + 1)) = (recvP P 0 (recvL P ns (l.take i)) m).1 := by
  unfold recvL; rw [take_next hm, List.foldl_append]; rfl
theorem drainL_take (i : Nat) : drainL P ns (List.range (i + 1)) = drain1 P (drainL P ns (List.range i)) i := by
  unfold drainL; rw [List.range_succ, List.foldl_append]; rfl
theorem drain1_is {i : Nat} (hi : i < ns.length) (h3 : (nd ns i).ph = 3) : (drainP P 0 ns (i : Int)).1 = drain1 P ns i := by
  have he : drainErr ns (i : Int) = 0 := by
    unfold drainErr
    rw [if_neg (by omega), Int.toNat_natCast, if_neg (fun h => h h3)]
  unfold drainP drain1
  rw [if_pos he, if_pos h3, Int.toNat_natCast]
end
/-- What holds within the rounds. -/
structure Rn (w0 : World) (L : Lay) (xs : List Nat) (E : Nat) (ns : List Sn) (M : List Nm) (w : World) : Prop where
  P : L.P = treeP xs
  root : L.root = 0
  ch : ChAt w L M
  is : sns M = ns
  inv : Inv L.P ns
  cap : Cap E ns
  sl : ∀ g, SL L M g → w0.heap.size ≤ g
  bel : Below w0.heap.size w0 w
section
variable {w0 w w' : World} {L : Lay} {xs : List Nat} {E : Nat} {ns ns' : List Sn} {M : List Nm}
theorem Rn.tree (h : Rn w0 L xs E ns M w) : Tree L.P := by rw [h.P]; exact tree_tree xs
theorem Rn.p10 (h : Rn w0 L xs E ns M w) : L.P.length ≤ 10 := by rw [h.P]; exact (tree_len xs).2
theorem Rn.new_ (h : Rn w0 L xs E ns M w) (hb : Below w.heap.size w w') : Rn w0 L xs E ns M w' := ⟨h.P, h.root, h.ch.new_ hb, h.is, h.inv, h.cap, h.sl, join h.bel hb⟩
theorem Rn.fit (h : Rn w0 L xs E ns M w) (hE : E ≤ 100000) : Fit (sns M) := by
  rw [h.is]
  refine ⟨fun v _ => Nat.le_trans (cap_ep h.inv h.tree h.cap v) (by unfold MaxEp; omega), fun v hv => (h.inv.wf v (by rw [← h.inv.len]; exact hv)).ph, fun v hv => ?_⟩
  have h1 := an_le h.inv (v := v) (by rw [← h.inv.len]; exact hv)
  have h2 := kids_len L.P v
  have h3 := h.p10
  omega
theorem Rn.upd {M' : List Nm} (h : Rn w0 L xs E ns M w) (hC : ChAt w' L M') (hs : sns M' = ns') (hI : Inv L.P ns') (hc : Cap E ns') (ho : OnlyP (SL L M) w w') (hsl : ∀ g, SL L M' g → SL L M g ∨ w.heap.size ≤ g) : Rn w0 L xs E ns' M' w' :=
  ⟨h.P, h.root, hC, hs, hI, hc, fun g hg => by
    rcases hsl g hg with e | e
    · exact h.sl g e
    · have := h.bel.size; omega, h.bel.trans (ho.below (B := w0.heap.size) h.sl h.bel.size)⟩
theorem Rn.recv (h : Rn w0 L xs E ns M w) {m : Mg} (hm : MOk L.P ns m) {M' : List Nm} (hC : ChAt w' L M') (hs : sns M' = (recvP L.P 0 ns m).1) (ho : OnlyP (SL L M) w w') (hsl : ∀ g, SL L M' g → SL L M g ∨ w.heap.size ≤ g) : Rn w0 L xs E (recvP L.P 0 ns m).1 M' w' := by
  exact h.upd hC hs (recv_good h.inv h.tree m hm).inv (cap_recv h.inv h.tree hm h.cap) ho hsl
theorem Rn.drain (h : Rn w0 L xs E ns M w) {i : Nat} (hi : i < L.P.length) (h3 : (nd ns i).ph = 3) {M' : List Nm} (hC : ChAt w' L M') (hs : sns M' = (drainP L.P 0 ns (i : Int)).1) (ho : OnlyP (SL L M) w w') (hsl : ∀ g, SL L M' g → SL L M g ∨ w.heap.size ≤ g) : Rn w0 L xs E (drain1 L.P ns i) M' w' := by
  rw [drain1_is (by rw [h.inv.len]; exact hi) h3] at hs
  exact h.upd hC hs (drain1_fore h.inv h.tree hi).1 (cap_drain h.inv h.tree hi h.cap) ho hsl
theorem Rn.at_ (h : Rn w0 L xs E ns M w) (e : ns = ns') : Rn w0 L xs E ns' M w := e ▸ h
theorem rn_start {k : Nat} {fly : List Mg} {A : Option Addr} {kap : Nat} (h : St w0 L xs k M fly A kap w) : Rn w0 L xs (k + 1) (sns M) M w :=
  ⟨h.P, h.root, h.ch, rfl, h.inv, by
    have := cap_start h.inv h.tree
    have he := h.ep 0
    rcases this with ⟨e, h1, h2⟩ | ⟨h1, h2⟩
    · exact .inl ⟨e, by omega, h2⟩
    · exact .inr ⟨h1, by omega⟩, h.sl, h.bel⟩
end
end Go.Proofs.Ytibmbhnpmfgclaa
