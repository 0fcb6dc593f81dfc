/- Reconfig: the reference's Receive and Drained whole; the reference's state beside the program's. -/
import Derived.Test.YtibmbhnpmfgclaaRZQA
import Derived.Test.YtibmbhnpmfgclaaRZQB
import Derived.Test.YtibmbhnpmfgclaaRZQC
import Derived.Test.YtibmbhnpmfgclaaRZQD
import Derived.Test.YtibmbhnpmfgclaaRZL
import Derived.Test.YtibmbhnpmfgclaaRZM
import Derived.Test.YtibmbhnpmfgclaaRAgr
import Derived.Test.YtibmbhnpmfgclaaRZJ
namespace Go.Proofs.Ytibmbhnpmfgclaa
set_option linter.unusedVariables false
set_option linter.unusedSimpArgs false
open Go.RowKit Go.Maps
section
variable (w : World) (P : List Int) (S : RSt)
theorem rReceive_c (m : Mg) (h : RAt w P S) (hE : ∀ (v : Nat) (n : Rn), S.N[v]? = some n → n.x.ep ≤ 1000000) (hL : ∀ (v : Nat) (n : Rn), S.N[v]? = some n → n.x.ph = 1 ∨ n.x.ph = 3 → n.x.L.length = P.length) : Calls Try.prog 27 #[.agg #[.slice (some ⟨S.gp, 0, none⟩) P.length S.kp, .slice (some ⟨S.g, 0, none⟩) P.length S.kn], mv m] w (ZRes w P (rRecv P (rps S) m) (errP P m)) := by
  have hr : ∀ m, errP P m ≠ 0 → rRecv P (rps S) m = (rps S, []) := fun m h => by unfold rRecv; rw [if_neg h]
  have hr0 : ∀ m, errP P m = 0 → rRecv P (rps S) m = rGo P (rps S) m := fun m h => by unfold rRecv; rw [if_pos h]
  by_cases h1 : m.kind < 1 ∨ 4 < m.kind
  · have he : errP P m = 16 := by unfold errP; rw [if_pos h1]
    rw [hr m (by omega), he]; exact rRecv_kind w P S m h h1
  by_cases h2 : m.frm < 0 ∨ P.length ≤ m.frm ∨ m.to_ < 0 ∨ P.length ≤ m.to_
  · have he : errP P m = 2 := by unfold errP; rw [if_neg h1, if_pos h2]
    rw [hr m (by omega), he]; exact rRecv_node w P S m h h1 h2
  obtain ⟨k, f, t, ep⟩ := m
  simp only at h1 h2
  obtain ⟨f, rfl⟩ : ∃ x : Nat, f = x := ⟨f.toNat, by omega⟩
  obtain ⟨t, rfl⟩ : ∃ x : Nat, t = x := ⟨t.toNat, by omega⟩
  have hf : f < P.length := by omega
  have ht : t < P.length := by omega
  obtain ⟨n, hv⟩ := get_some (l := S.N) (k := t) (by rw [h.len]; exact ht)
  have h2' : ¬ ((f : Int) < 0 ∨ (P.length : Int) ≤ f ∨ (t : Int) < 0 ∨ (P.length : Int) ≤ t) := h2
  rcases (by omega : k = 1 ∨ k = 2 ∨ k = 3 ∨ k = 4) with rfl | rfl | rfl | rfl
  · by_cases hx : parI P t = f
    · have he : errP P ⟨1, f, t, ep⟩ = 0 := by unfold errP; rw [if_neg h1, if_neg h2', if_neg (by simp [hx])]
      rw [hr0 _ he, he]; exact rRecv_1 w P S f t ep n h hf ht hx hv (hE _ _ hv) (hL _ _ hv)
    · have he : errP P ⟨1, f, t, ep⟩ = 12 := by unfold errP; rw [if_neg h1, if_neg h2', if_pos (by simp [hx])]
      rw [hr _ (by omega), he]; exact rRecv_edge1 w P S f t ep h hf ht hx
  · by_cases hx : parI P f = t
    · have he : errP P ⟨2, f, t, ep⟩ = 0 := by unfold errP; rw [if_neg h1, if_neg h2', if_neg (by simp [hx])]
      rw [hr0 _ he, he]; exact rRecv_2 w P S f t ep n h hf ht hx hv (hE _ _ hv) (hL _ _ hv)
    · have he : errP P ⟨2, f, t, ep⟩ = 12 := by unfold errP; rw [if_neg h1, if_neg h2', if_pos (by simp [hx])]
      rw [hr _ (by omega), he]; exact rRecv_edge2 w P S f t ep h hf ht hx
  · by_cases hx : parI P t = f
    · have he : errP P ⟨3, f, t, ep⟩ = 0 := by unfold errP; rw [if_neg h1, if_neg h2', if_neg (by simp [hx])]
      rw [hr0 _ he, he]; exact rRecv_3 w P S f t ep n h hf ht hx hv (hE _ _ hv) (hL _ _ hv)
    · have he : errP P ⟨3, f, t, ep⟩ = 12 := by unfold errP; rw [if_neg h1, if_neg h2', if_pos (by simp [hx])]
      rw [hr _ (by omega), he]; exact rRecv_edge3 w P S f t ep h hf ht hx
  · by_cases hx : parI P f = t
    · have he : errP P ⟨4, f, t, ep⟩ = 0 := by unfold errP; rw [if_neg h1, if_neg h2', if_neg (by simp [hx])]
      rw [hr0 _ he, he]; exact rRecv_4 w P S f t ep n h hf ht hx hv (hE _ _ hv) (hL _ _ hv)
    · have he : errP P ⟨4, f, t, ep⟩ = 12 := by unfold errP; rw [if_neg h1, if_neg h2', if_pos (by simp [hx])]
      rw [hr _ (by omega), he]; exact rRecv_edge4 w P S f t ep h hf ht hx
theorem rDrain_c (z : Int) (h : RAt w P S) (hL : ∀ (v : Nat) (n : Rn), S.N[v]? = some n → n.x.ph = 1 ∨ n.x.ph = 3 → n.x.L.length = P.length) : Calls Try.prog 28 #[.agg #[.slice (some ⟨S.gp, 0, none⟩) P.length S.kp, .slice (some ⟨S.g, 0, none⟩) P.length S.kn], .int .i64 z] w (ZRes w P (drainedR P (rps S) z) (drainedE P (rps S) z)) := by
  by_cases hz : z < 0 ∨ P.length ≤ z
  · exact rDrained_no w P S z h hz
  obtain ⟨v, rfl⟩ : ∃ x : Nat, z = x := ⟨z.toNat, by omega⟩
  obtain ⟨n, hv⟩ := get_some (l := S.N) (k := v) (by rw [h.len]; omega)
  by_cases hp : n.x.ph = 3
  · have he : drainedE P (rps S) v = 0 := by unfold drainedE; rw [if_neg hz, Int.toNat_natCast, rps_get hv, if_neg (by omega)]
    have hr : drainedR P (rps S) v = rRest P ((rps S).set v { rd (rps S) v with dr := true }) v := by unfold drainedR; rw [if_pos he, Int.toNat_natCast]
    rw [hr, he]; exact rDrained_yes w P S v n h hv hp (hL _ _ hv (.inr hp))
  · exact rDrained_ph w P S v n h hv hp
end
section
variable {w0 w w' : World} {L : Lay} {xs : List Nat} {M : List Nm} {S : RSt} {fly : List Mg} {A : Option Addr} {kap : Nat}
theorem RAt.apart (h : RAt w L.P S) (hc : ChAt w L M) (k : OnlyP (SL L M) w w') : RAt w' L.P S :=
  ⟨h.pos, h.sm, h.par.only k (h.par.blk.elim fun _ hb => sl_blk hc hb (by decide)), h.nodes.only k (h.nodes.blk.elim fun _ hb => sl_blk hc hb (by decide)), h.len, h.lle, fun n hn hl => by
    obtain ⟨g, e, ho⟩ := h.ans n hn hl
    exact ⟨g, e, ho.only k (ho.blk.elim fun _ hb => sl_blk hc hb (by decide))⟩, h.dist⟩
theorem ChAt.keepM {g : Nat} {cs : Array Value} (h : ChAt w L M) (hb : Blk w g 39 cs) (k : OnlyP (fun x => x = g) w w') : ChAt w' L M := by
  have hm : ∀ m, m ∈ M → ∀ g', m.mb = some g' → g' ≠ g := fun m hm g' hg e => by subst e; exact (h.mlt m hm _ hg).2 _ _ hb
  refine ⟨⟨h.fix.box.only k (Blk.ne_ h.fix.box hb (by decide)), own_keep h.fix.par k (fun g' hg e => by subst e; exact own_blk_ne h.fix.par hb (by decide) hg), h.fix.ch.only k (Blk.ne_ h.fix.ch hb (by decide)), h.fix.chl, fun v pt hv => ⟨own_keep (h.fix.chk v pt hv).1 k (fun g' hg e => by subst e; exact own_blk_ne (h.fix.chk v pt hv).1 hb (by decide) hg), (h.fix.chk v pt hv).2⟩, h.fix.rt, h.fix.sm⟩, h.nodes.only k (Blk.ne_ h.nodes hb (by decide)), h.len, fun m hmm hph => ?_, fun m hmm g' hg => ?_, h.dist⟩
  · obtain ⟨g', h1, h2⟩ := h.maps m hmm hph
    exact ⟨g', h1, MapAt.only h2 k (hm m hmm g' h1)⟩
  · obtain ⟨h1, h2⟩ := h.mlt m hmm g' hg
    refine ⟨Nat.lt_of_lt_of_le h1 k.size, fun t cs' hb' => h2 t cs' ?_⟩
    unfold Blk at hb' ⊢
    rw [← k.block g' h1 (hm m hmm g' hg)]; exact hb'
/-- How the change, the reference's state and the messages lie. -/
structure Sl (w0 : World) (L : Lay) (xs : List Nat) (M : List Nm) (S : RSt) (fly : List Mg) (A : Option Addr) (kap : Nat) (w : World) : Prop where
  P : L.P = treeP xs
  root : L.root = 0
  ch : ChAt w L M
  rat : RAt w L.P S
  own : w.ownsRow w0.heap.size 39 4 (.slice A fly.length kap) fly.length (mcells fly)
  sl : ∀ g, SL L M g → w0.heap.size ≤ g
  bel : Below w0.heap.size w0 w
theorem Sl.tree (h : Sl w0 L xs M S fly A kap w) : Tree L.P := by rw [h.P]; exact tree_tree xs
theorem Sl.p10 (h : Sl w0 L xs M S fly A kap w) : L.P.length ≤ 10 := by rw [h.P]; exact (tree_len xs).2
theorem Sl.new_ (h : Sl w0 L xs M S fly A kap w) (hb : Below w.heap.size w w') : Sl w0 L xs M S fly A kap w' :=
  ⟨h.P, h.root, h.ch.new_ hb, h.rat.new_ hb, own_new h.own hb, h.sl, join h.bel hb⟩
/-- The program's change goes on. -/
theorem Sl.prog {o : OutP} {z : Int} {e : Ending} (h : Sl w0 L xs M S fly A kap w) (hu : Upd2 w L M o z e w') : ∃ A2 k2 M', e = .returned (.tuple #[.slice A2 o.2.length k2, .int .i64 z]) ∧ sns M' = o.1 ∧ Sl w0 L xs M' S fly A kap w' ∧ w'.ownsRow w0.heap.size 39 4 (.slice A2 o.2.length k2) o.2.length (mcells o.2) := by
  obtain ⟨A2, k2, M', rfl, hs, hC, ho, hon, hsl⟩ := Upd2.get hu
  have hz := h.bel.size
  refine ⟨A2, k2, M', rfl, hs, ⟨h.P, h.root, hC, h.rat.apart h.ch hon, own_keep h.own hon (sl_own h.ch h.own), fun g hg => ?_, h.bel.trans (hon.below (B := w0.heap.size) h.sl hz)⟩, own_base ho hz⟩
  rcases hsl g hg with e | e
  · exact h.sl g e
  · omega
/-- The reference goes on. -/
theorem Sl.ref {o : OutR} {z : Int} {e : Ending} (h : Sl w0 L xs M S fly A kap w) (hu : ZRes w L.P o z e w') : ∃ (S' : RSt) (A3 : Option Addr) (k3 : Nat), e = .returned (.tuple #[.agg #[.slice (some ⟨S'.gp, 0, none⟩) L.P.length S'.kp, .slice (some ⟨S'.g, 0, none⟩) L.P.length S'.kn], .slice A3 o.2.length k3, .int .i64 z]) ∧ rps S' = o.1 ∧ Sl w0 L xs M S' fly A kap w' ∧
    w'.ownsRow w0.heap.size 62 4 (.slice A3 o.2.length k3) o.2.length (mcells o.2) ∧ Below w.heap.size w w' := by
  obtain ⟨S', A3, k3, rfl, hs, hA, ho, hb⟩ := hu
  exact ⟨S', A3, k3, rfl, hs, ⟨h.P, h.root, h.ch.new_ hb, hA, own_new h.own hb, h.sl, join h.bel hb⟩, own_base ho h.bel.size, hb⟩
/-- Messages are put behind those in flight. -/
theorem Sl.app {l : List Mg} {n' : Nat} {v' : Value} (h : Sl w0 L xs M S fly A kap w) (ho : w'.ownsRow w0.heap.size 39 4 v' n' (mcells fly ++ mcells l)) (hn : n' = (fly ++ l).length) (hg : w.grownBy w' (Value.slice A fly.length kap).ownBlock) :
    ∃ A' kap', v' = .slice A' (fly ++ l).length kap' ∧ Sl w0 L xs M S (fly ++ l) A' kap' w' := by
  obtain ⟨A', kap', rfl⟩ := own_slice ho
  subst hn
  refine ⟨A', kap', rfl, ?_⟩
  have ho2 : w'.ownsRow w0.heap.size 39 4 (.slice A' (fly ++ l).length kap') (fly ++ l).length (mcells (fly ++ l)) := by rw [mcells_app]; exact ho
  rcases A with _ | a
  · have hb : Below w.heap.size w w' := ⟨hg.os, hg.tape, hg.output, hg.size, fun i hi => hg.block i hi (by simp [Value.ownBlock])⟩
    have h' := h.new_ hb
    exact ⟨h'.P, h'.root, h'.ch, h'.rat, ho2, h'.sl, h'.bel⟩
  · rcases h.own.2 with ⟨h1, _⟩ | ⟨g, cap, cur, h1, hB, hh, _⟩
    · cases h1
    · injection h1 with h1 h2
      injection h1 with h1
      subst h1
      have hblk : Blk w g 39 cur := hh
      have hon : OnlyP (fun x => x = g) w w' := ⟨hg.os, hg.tape, hg.output, hg.size, fun i hi hne => hg.block i hi (by simpa [Value.ownBlock] using hne)⟩
      have hr : ∀ {α : Type} {g' : Nat} {t : TypeId} {sz : Nat} {f : α → List Value} {l : List α}, OwnAt w g' t sz f l → t ≠ 39 → OwnAt w' g' t sz f l := fun ho ht => by
        obtain ⟨cs, hb⟩ := ho.blk
        exact ho.only hon (Blk.ne_ hb hblk ht)
      refine ⟨h.P, h.root, h.ch.keepM hblk hon, ⟨h.rat.pos, h.rat.sm, hr h.rat.par (by decide), hr h.rat.nodes (by decide), h.rat.len, h.rat.lle, fun n hn hl => ?_, h.rat.dist⟩, ho2, h.sl, h.bel.trans (hon.below (B := w0.heap.size) (fun k hk => by subst hk; exact hB) h.bel.size)⟩
      obtain ⟨g', e, ho⟩ := h.rat.ans n hn hl
      exact ⟨g', e, hr ho (by decide)⟩
/-- What both say alike, behind k operations. -/
structure Sm (P : List Int) (ns : List Sn) (rs : List Rp) (n k : Nat) : Prop where
  sim : Sim P ns rs
  ep : ∀ v, (nd ns v).ep ≤ k
  fl : n ≤ 200 * k
theorem Sl.fit {n k : Nat} (h : Sl w0 L xs M S fly A kap w) (hm : Sm L.P (sns M) (rps S) n k) (hk : k ≤ 100000) : Fit (sns M) := hm.sim.fit hm.ep hk h.p10
theorem Sm.rep {P : List Int} {n k : Nat} (hm : Sm P (sns M) (rps S) n k) (hr : RAt w P S) (hk : k ≤ 100000) : ∀ (v : Nat) (n : Rn), S.N[v]? = some n → n.x.ep ≤ 1000000 ∧ (n.x.ph = 1 ∨ n.x.ph = 3 → n.x.L.length = P.length) := fun v n hv => by
  have hl : v < P.length := by rw [← hr.len]; exact (List.getElem?_eq_some_iff.1 hv).1
  have hx := hm.sim.at_ v hl
  rw [rps_get hv] at hx
  have h1 := hm.ep v
  have h2 := hx.ep
  have h3 := hx.ph
  exact ⟨by omega, fun hp => (hx.an (by omega)).1⟩
theorem Sm.next {P : List Int} {ns ns' : List Sn} {rs rs' : List Rp} {n n' k : Nat} {o : OutP} {q : OutR} (hm : Sm P ns rs n k) (hs : SimO P o q) (he : Ep1 ns o.1) (h1 : ns' = o.1) (h2 : rs' = q.1) (hn : n' ≤ n + 200) : Sm P ns' rs' n' (k + 1) := by
  subst h1 h2
  exact ⟨hs.1, fun v => by have := he v; have := hm.ep v; omega, by have := hm.fl; omega⟩
end
section
variable {w0 w w' : World} {L : Lay} {xs : List Nat} {M : List Nm} {S Sb : RSt} {fly : List Mg} {A : Option Addr} {kap bs bo : Nat} {x : Opn}
theorem ChAt.keepS {g : Nat} {cs : Array Value} (h : ChAt w L M) (hb : Blk w g 53 cs) (k : OnlyP (fun x => x = g) w w') : ChAt w' L M := by
  have hm : ∀ m, m ∈ M → ∀ g', m.mb = some g' → g' ≠ g := fun m hm g' hg e => by subst e; exact (h.mlt m hm _ hg).2 _ _ hb
  refine ⟨⟨h.fix.box.only k (Blk.ne_ h.fix.box hb (by decide)), own_keep h.fix.par k (fun g' hg e => by subst e; exact own_blk_ne h.fix.par hb (by decide) hg), h.fix.ch.only k (Blk.ne_ h.fix.ch hb (by decide)), h.fix.chl, fun v pt hv => ⟨own_keep (h.fix.chk v pt hv).1 k (fun g' hg e => by subst e; exact own_blk_ne (h.fix.chk v pt hv).1 hb (by decide) hg), (h.fix.chk v pt hv).2⟩, h.fix.rt, h.fix.sm⟩, h.nodes.only k (Blk.ne_ h.nodes hb (by decide)), h.len, fun m hmm hph => ?_, fun m hmm g' hg => ?_, h.dist⟩
  · obtain ⟨g', h1, h2⟩ := h.maps m hmm hph
    exact ⟨g', h1, MapAt.only h2 k (hm m hmm g' h1)⟩
  · obtain ⟨h1, h2⟩ := h.mlt m hmm g' hg
    refine ⟨Nat.lt_of_lt_of_le h1 k.size, fun t cs' hb' => h2 t cs' ?_⟩
    unfold Blk at hb' ⊢
    rw [← k.block g' h1 (hm m hmm g' hg)]; exact hb'
/-- What the round knows: the change, the reference's state S, the box of the reference's state (it holds Sb), the operation's box. -/
structure Pr (w0 : World) (L : Lay) (xs : List Nat) (M : List Nm) (S Sb : RSt) (fly : List Mg) (A : Option Addr) (kap bs bo : Nat) (x : Opn) (w : World) : Prop where
  sl : Sl w0 L xs M S fly A kap w
  bx : Blk w bs 53 #[.slice (some ⟨Sb.gp, 0, none⟩) L.P.length Sb.kp, .slice (some ⟨Sb.g, 0, none⟩) L.P.length Sb.kn]
  op : Blk w bo 56 #[.int .i64 x.kind, .int .i64 x.n, .int .i64 x.m.kind, .int .i64 x.m.frm, .int .i64 x.m.to_, .int .i64 x.m.ep]
  b0 : w0.heap.size ≤ bs
theorem Pr.new_ (h : Pr w0 L xs M S Sb fly A kap bs bo x w) (hb : Below w.heap.size w w') : Pr w0 L xs M S Sb fly A kap bs bo x w' := ⟨h.sl.new_ hb, h.bx.new_ hb, h.op.new_ hb, h.b0⟩
/-- The program's messages lie in a row of their own. -/
def RowP (w0 w : World) (A : Option Addr) (k : Nat) (l : List Mg) : Prop := w.ownsRow w0.heap.size 39 4 (.slice A l.length k) l.length (mcells l)
def RowR (w0 w : World) (A : Option Addr) (k : Nat) (l : List Mg) : Prop := w.ownsRow w0.heap.size 62 4 (.slice A l.length k) l.length (mcells l)
theorem RowP.new_ {l : List Mg} {k : Nat} (h : RowP w0 w A k l) (hb : Below w.heap.size w w') : RowP w0 w' A k l := own_new h hb
theorem RowR.new_ {l : List Mg} {k : Nat} (h : RowR w0 w A k l) (hb : Below w.heap.size w w') : RowR w0 w' A k l := own_new h hb
theorem RowP.nil : RowP w0 w none 0 [] := World.ownsRow_nil _ _ _ _
theorem RowR.nil : RowR w0 w none 0 [] := World.ownsRow_nil _ _ _ _
theorem Pr.prog {o : OutP} {z : Int} {e : Ending} (h : Pr w0 L xs M S Sb fly A kap bs bo x w) (hu : Upd2 w L M o z e w') : ∃ A2 k2 M', e = .returned (.tuple #[.slice A2 o.2.length k2, .int .i64 z]) ∧ sns M' = o.1 ∧ Pr w0 L xs M' S Sb fly A kap bs bo x w' ∧ RowP w0 w' A2 k2 o.2 ∧ (∀ (g : Nat) (t : TypeId) (cs : Array Value), Blk w g t cs → t ≠ 89 → Blk w' g t cs) := by
  obtain ⟨_, _, _, _, _, _, _, hon, _⟩ := Upd2.get hu
  obtain ⟨A2, k2, M', rfl, hs, hS, ho⟩ := h.sl.prog hu
  exact ⟨A2, k2, M', rfl, hs, ⟨hS, h.bx.only hon (sl_blk h.sl.ch h.bx (by decide)), h.op.only hon (sl_blk h.sl.ch h.op (by decide)), h.b0⟩, ho, fun g t cs hb ht => hb.only hon (sl_blk h.sl.ch hb ht)⟩
theorem Pr.ref {o : OutR} {z : Int} {e : Ending} (h : Pr w0 L xs M S Sb fly A kap bs bo x w) (hu : ZRes w L.P o z e w') : ∃ (S' : RSt) (A3 : Option Addr) (k3 : Nat), e = .returned (.tuple #[.agg #[.slice (some ⟨S'.gp, 0, none⟩) L.P.length S'.kp, .slice (some ⟨S'.g, 0, none⟩) L.P.length S'.kn], .slice A3 o.2.length k3, .int .i64 z]) ∧ rps S' = o.1 ∧
    Pr w0 L xs M S' Sb fly A kap bs bo x w' ∧ RowR w0 w' A3 k3 o.2 ∧ Below w.heap.size w w' := by
  obtain ⟨S', A3, k3, rfl, hs, hS, ho, hb⟩ := h.sl.ref hu
  exact ⟨S', A3, k3, rfl, hs, ⟨hS, h.bx.new_ hb, h.op.new_ hb, h.b0⟩, ho, hb⟩
theorem box_only (hb : bs < w.heap.size) (u u' : Value) : OnlyP (fun x => x = bs) w ((w.setCell ⟨bs, 0, none⟩ u).setCell ⟨bs, 1, none⟩ u') :=
  ((OnlyP.refl (fun x => x = bs) w).set (p := ⟨bs, 0, none⟩) (.inl rfl) _).set (p := ⟨bs, 1, none⟩) (.inl rfl) _
theorem Pr.put (h : Pr w0 L xs M S Sb fly A kap bs bo x w) : Pr w0 L xs M S S fly A kap bs bo x ((w.setCell ⟨bs, 0, none⟩ (.slice (some ⟨S.gp, 0, none⟩) L.P.length S.kp)).setCell ⟨bs, 1, none⟩ (.slice (some ⟨S.g, 0, none⟩) L.P.length S.kn)) := by
  have hon := box_only h.bx.lt (.slice (some ⟨S.gp, 0, none⟩) L.P.length S.kp) (.slice (some ⟨S.g, 0, none⟩) L.P.length S.kn)
  refine ⟨⟨h.sl.P, h.sl.root, h.sl.ch.keepS h.bx hon, h.sl.rat.box h.bx _ _, own_keep h.sl.own hon (fun g hg e => by subst e; exact own_blk_ne h.sl.own h.bx (by decide) hg), h.sl.sl, h.sl.bel.trans (hon.below (B := w0.heap.size) (fun k hk => by subst hk; exact h.b0) h.sl.bel.size)⟩, (h.bx.set_ 0 _).set_ 1 _, h.op.only hon (Blk.ne_ h.op h.bx (by decide)), h.b0⟩
theorem RowP.put {l : List Mg} {k : Nat} {cs : Array Value} (h : RowP w0 w A k l) (hb : Blk w bs 53 cs) (u u' : Value) : RowP w0 ((w.setCell ⟨bs, 0, none⟩ u).setCell ⟨bs, 1, none⟩ u') A k l :=
  own_keep h (box_only hb.lt u u') (fun g hg e => by subst e; exact own_blk_ne h hb (by decide) hg)
theorem RowR.put {l : List Mg} {k : Nat} {cs : Array Value} (h : RowR w0 w A k l) (hb : Blk w bs 53 cs) (u u' : Value) : RowR w0 ((w.setCell ⟨bs, 0, none⟩ u).setCell ⟨bs, 1, none⟩ u') A k l :=
  own_keep h (box_only hb.lt u u') (fun g hg e => by subst e; exact own_blk_ne h hb (by decide) hg)
/-- What the switch leaves: both sides' messages are alike. -/
structure Sw (w0 : World) (L : Lay) (xs : List Nat) (M : List Nm) (S : RSt) (fly : List Mg) (A : Option Addr) (kap bs bo : Nat) (x : Opn) (k : Nat) (l : List Mg) (A2 : Option Addr) (k2 : Nat) (A3 : Option Addr) (k3 : Nat) (w : World) : Prop where
  pr : Pr w0 L xs M S S fly A kap bs bo x w
  sm : Sm L.P (sns M) (rps S) (fly ++ l).length k
  r2 : RowP w0 w A2 k2 l
  r3 : RowR w0 w A3 k3 l
  ll : l.length ≤ 110
theorem Sw.new_ {k k2 k3 : Nat} {l : List Mg} {A2 A3 : Option Addr} (h : Sw w0 L xs M S fly A kap bs bo x k l A2 k2 A3 k3 w) (hb : Below w.heap.size w w') : Sw w0 L xs M S fly A kap bs bo x k l A2 k2 A3 k3 w' :=
  ⟨h.pr.new_ hb, h.sm, h.r2.new_ hb, h.r3.new_ hb, h.ll⟩
/-- Behind both calls and the store. -/
theorem Sw.both {M' : List Nm} {S' : RSt} {o : OutP} {q : OutR} {k k2 k3 : Nat} {A2 A3 : Option Addr} (hm : Sm L.P (sns M) (rps S) fly.length k) (hs : SimO L.P o q) (he : Ep1 (sns M) o.1) (e1 : sns M' = o.1) (e2 : rps S' = q.1) (hl : o.2.length ≤ 110)
    (h : Pr w0 L xs M' S' Sb fly A kap bs bo x w) (h2 : RowP w0 w A2 k2 o.2) (h3 : RowR w0 w A3 k3 q.2) :
    Sw w0 L xs M' S' fly A kap bs bo x (k + 1) o.2 A2 k2 A3 k3 ((w.setCell ⟨bs, 0, none⟩ (.slice (some ⟨S'.gp, 0, none⟩) L.P.length S'.kp)).setCell ⟨bs, 1, none⟩ (.slice (some ⟨S'.g, 0, none⟩) L.P.length S'.kn)) := by
  refine ⟨h.put, ?_, h2.put h.bx _ _, ?_, hl⟩
  · have := Sm.next hm hs he e1 e2 (n' := (fly ++ o.2).length) (by rw [List.length_append]; omega)
    exact this
  · rw [hs.2]; exact h3.put h.bx _ _
/-- Where nothing of the state goes on. -/
theorem Sw.still {l : List Mg} {k k2 k3 : Nat} {A2 A3 : Option Addr} (hm : Sm L.P (sns M) (rps S) fly.length k) (hl : l.length ≤ 110) (h : Pr w0 L xs M S S fly A kap bs bo x w) (h2 : RowP w0 w A2 k2 l) (h3 : RowR w0 w A3 k3 l) : Sw w0 L xs M S fly A kap bs bo x (k + 1) l A2 k2 A3 k3 w :=
  ⟨h, ⟨hm.sim, fun v => Nat.le_trans (hm.ep v) (Nat.le_succ k), by have := hm.fl; rw [List.length_append]; omega⟩, h2, h3, hl⟩
theorem Sm.more {P : List Int} {ns : List Sn} {rs : List Rp} {n k : Nat} (h : Sm P ns rs n k) : Sm P ns rs n (k + 1) := ⟨h.sim, fun v => Nat.le_trans (h.ep v) (Nat.le_succ k), by have := h.fl; omega⟩
/-- The cells that the round's last test reads. -/
structure SwC (w : World) (L : Lay) (S : RSt) (bs bo : Nat) (x : Opn) (pz : Int) : Prop where
  b0 : w.cell? ⟨bs, 0, none⟩ = some (.slice (some ⟨S.gp, 0, none⟩) L.P.length S.kp)
  b1 : w.cell? ⟨bs, 1, none⟩ = some (.slice (some ⟨S.g, 0, none⟩) L.P.length S.kn)
  n1 : w.cell? ⟨S.g, 1, none⟩ = some (.int .i64 pz)
  o1 : w.cell? ⟨bo, 1, none⟩ = some (.int .i64 x.n)
theorem Sw.cells {k k2 k3 : Nat} {l : List Mg} {A2 A3 : Option Addr} (h : Sw w0 L xs M S fly A kap bs bo x k l A2 k2 A3 k3 w) : SwC w L S bs bo x ((rd (rps S) 0).ph : Int) := by
  have hp := h.pr.sl.tree.pos
  obtain ⟨n, hn⟩ := get_some (l := S.N) (k := 0) (by rw [h.pr.sl.rat.len]; exact hp)
  have hN := h.pr.sl.rat.node hn
  rw [rps_get hn]
  refine ⟨h.pr.bx.cell 0 rfl, h.pr.bx.cell 1 rfl, ?_, h.pr.op.cell 1 rfl⟩
  have := hN.n1
  simpa using this
theorem Sw.fin {k k2 k3 : Nat} {l : List Mg} {A2 A3 : Option Addr} (h : Sw w0 L xs M S fly A kap bs bo x k l A2 k2 A3 k3 w) : decide ((nd (sns M) L.root).ph = 0) = ((((rd (rps S) 0).ph : Int)) == 0) := by
  have hp := h.pr.sl.tree.pos
  have := (h.sm.sim.at_ 0 hp).ph
  rw [h.pr.sl.root, this, Bool.eq_iff_iff]
  simp
theorem Sw.eps {k k2 k3 : Nat} {l : List Mg} {A2 A3 : Option Addr} (h : Sw w0 L xs M S fly A kap bs bo x k l A2 k2 A3 k3 w) (z : Int) : epR L.P (rps S) z false = epQ (sns M) z ∧ epR L.P (rps S) z true = phQ (sns M) z :=
  ⟨(ep_sim h.sm.sim z).1.symm, (ep_sim h.sm.sim z).2.symm⟩
/-- The messages are put behind those in flight. -/
theorem Sw.app {k k2 k3 n' : Nat} {l : List Mg} {A2 A3 : Option Addr} {v' : Value} (h : Sw w0 L xs M S fly A kap bs bo x k l A2 k2 A3 k3 w) (ho : w'.ownsRow w0.heap.size 39 4 v' n' (mcells fly ++ mcells l)) (hn : n' = fly.length + l.length) (hg : w.grownBy w' (Value.slice A fly.length kap).ownBlock) :
    ∃ A' kap', v' = .slice A' (fly ++ l).length kap' ∧ Sl w0 L xs M S (fly ++ l) A' kap' w' ∧ Blk w' bs 53 #[.slice (some ⟨S.gp, 0, none⟩) L.P.length S.kp, .slice (some ⟨S.g, 0, none⟩) L.P.length S.kn] := by
  obtain ⟨A', kap', e, hS⟩ := h.pr.sl.app ho (by rw [List.length_append]; exact hn) hg
  exact ⟨A', kap', e, hS, h.pr.bx.grown hg (fun e => own_blk_ne h.pr.sl.own h.pr.bx (by decide) e.symm)⟩
def refArg (L : Lay) (S : RSt) : Value := .agg #[.slice (some ⟨S.gp, 0, none⟩) L.P.length S.kp, .slice (some ⟨S.g, 0, none⟩) L.P.length S.kn]
/-- An operation as both sides carry it out. -/
structure Opd (w0 : World) (L : Lay) (xs : List Nat) (M : List Nm) (S : RSt) (fly : List Mg) (A : Option Addr) (kap bs bo : Nat) (x : Opn) (F G : Nat) (args : List Value) (o : OutP) (q : OutR) (z : Int) : Prop where
  sim : SimO L.P o q
  ep : Ep1 (sns M) o.1
  ln : o.2.length ≤ 110
  cp : ∀ W, Pr w0 L xs M S S fly A kap bs bo x W → Calls Try.prog F (.pointer (some ⟨L.b, 0, none⟩) :: args).toArray W (Upd2 W L M o z)
  cr : ∀ W M2, Pr w0 L xs M2 S S fly A kap bs bo x W → Calls Try.prog G (.agg #[.slice (some ⟨S.gp, 0, none⟩) L.P.length S.kp, .slice (some ⟨S.g, 0, none⟩) L.P.length S.kn] :: args).toArray W (ZRes W L.P q z)
theorem op_begin {n k : Nat} (h : Pr w0 L xs M S S fly A kap bs bo x w) (hm : Sm L.P (sns M) (rps S) n k) (hk : k ≤ 100000) : ∃ o q z, Opd w0 L xs M S fly A kap bs bo x 17 26 [] o q z := by
  obtain ⟨h1, h2⟩ := begin_sim hm.sim h.sl.tree
  have hl := begin_len (P := L.P) (r := 0) (ns := sns M)
  have hp := h.sl.p10
  refine ⟨_, _, beginE L.P (rps S), h1, begin_ep, by omega, fun W hW => ?_, fun W M2 hW => ?_⟩
  · have hc := Begin_c W L M hW.sl.ch (h.sl.fit hm hk)
    rw [h.sl.root, h2] at hc
    exact hc
  · refine rBegin_c W L.P S hW.sl.rat ?_
    rw [rot_tree h.sl.tree]
    obtain ⟨n, hn⟩ := get_some (l := S.N) (k := 0) (by rw [h.sl.rat.len]; exact h.sl.tree.pos)
    rw [rps_get hn]
    exact (hm.rep h.sl.rat hk 0 n hn).1
theorem op_recv {n k : Nat} (m : Mg) (h : Pr w0 L xs M S S fly A kap bs bo x w) (hm : Sm L.P (sns M) (rps S) n k) (hk : k ≤ 100000) : ∃ o q z, Opd w0 L xs M S fly A kap bs bo x 18 27 [.agg #[.int .i64 m.kind, .int .i64 m.frm, .int .i64 m.to_, .int .i64 m.ep]] o q z := by
  have h1 := recv_sim hm.sim h.sl.tree m
  have hl := recv_len (P := L.P) (r := 0) (ns := sns M) m
  have hp := h.sl.p10
  refine ⟨_, _, errP L.P m, h1, recv_ep m, by omega, fun W hW => ?_, fun W M2 hW => ?_⟩
  · have hc := Receive_c W L M m hW.sl.ch (h.sl.fit hm hk)
    rw [h.sl.root] at hc
    exact hc
  · exact rReceive_c W L.P S m hW.sl.rat (fun v n hv => (hm.rep h.sl.rat hk v n hv).1) (fun v n hv => (hm.rep h.sl.rat hk v n hv).2)
theorem op_drain {n k : Nat} (z : Int) (h : Pr w0 L xs M S S fly A kap bs bo x w) (hm : Sm L.P (sns M) (rps S) n k) (hk : k ≤ 100000) : ∃ o q e, Opd w0 L xs M S fly A kap bs bo x 19 28 [.int .i64 z] o q e := by
  obtain ⟨h1, h2⟩ := drain_sim hm.sim h.sl.tree z
  have hl := drain_len (P := L.P) (r := 0) (ns := sns M) z
  have hp := h.sl.p10
  refine ⟨_, _, drainedE L.P (rps S) z, h1, drain_ep z, by omega, fun W hW => ?_, fun W M2 hW => ?_⟩
  · have hc := Drained_c W L M z hW.sl.ch (h.sl.fit hm hk)
    rw [h.sl.root, h2] at hc
    exact hc
  · exact rDrain_c W L.P S z hW.sl.rat (fun v n hv => (hm.rep h.sl.rat hk v n hv).2)
structure Opr (w0 : World) (L : Lay) (xs : List Nat) (M : List Nm) (S : RSt) (fly : List Mg) (A : Option Addr) (kap bs bo : Nat) (x : Opn) (l : List Mg) : Prop where
  ln : l.length ≤ 110
  cp : ∀ W, Pr w0 L xs M S S fly A kap bs bo x W → Calls Try.prog 23 #[.pointer (some ⟨L.b, 0, none⟩)] W fun e w' => ∃ A2 k2, e = .returned (.slice A2 l.length k2) ∧ RowP w0 w' A2 k2 l ∧ Below W.heap.size W w'
  cr : ∀ W, Pr w0 L xs M S S fly A kap bs bo x W → Calls Try.prog 29 #[.agg #[.slice (some ⟨S.gp, 0, none⟩) L.P.length S.kp, .slice (some ⟨S.g, 0, none⟩) L.P.length S.kn]] W fun e w' => ∃ A3 k3, e = .returned (.slice A3 l.length k3) ∧ RowR w0 w' A3 k3 l ∧ Below W.heap.size W w'
theorem op_rep {n k : Nat} (h : Pr w0 L xs M S S fly A kap bs bo x w) (hm : Sm L.P (sns M) (rps S) n k) (hk : k ≤ 100000) : ∃ l, Opr w0 L xs M S fly A kap bs bo x l := by
  have h1 := repeat_sim hm.sim
  have hl := repeat_len (P := L.P) (ns := sns M)
  have hp := h.sl.p10
  have hn := hm.sim.ln
  have h2 : (sns M).length * (L.P.length + 1) ≤ 10 * 11 := Nat.mul_le_mul (by omega) (by omega)
  refine ⟨repeatP L.P (sns M), by omega, fun W hW => ?_, fun W hW => ?_⟩
  · refine (Repeat_c W L M hW.sl.ch (h.sl.fit hm hk)).mono ?_
    rintro e w' ⟨A2, k2, rfl, ho, hb⟩
    exact ⟨A2, k2, rfl, own_base ho hW.sl.bel.size, hb⟩
  · refine (rRepeat_c W L.P S hW.sl.rat (fun n hn => ?_) (fun n hn => ?_)).mono ?_
    · obtain ⟨i, hi, e⟩ := List.getElem_of_mem hn
      exact (hm.rep h.sl.rat hk i n (by rw [List.getElem?_eq_getElem hi, e])).1
    · obtain ⟨i, hi, e⟩ := List.getElem_of_mem hn
      exact (hm.rep h.sl.rat hk i n (by rw [List.getElem?_eq_getElem hi, e])).2
    · rw [h1]
      rintro e w' ⟨A2, k2, rfl, ho, hb⟩
      exact ⟨A2, k2, rfl, own_base ho hW.sl.bel.size, hb⟩
theorem same_t (l : List Mg) (A A' : Option Addr) (kap kap' : Nat) (w : World) (hl : Reads w w.heap.size 4 A l.length (mcells l)) (hm : Reads w w.heap.size 4 A' l.length (mcells l)) (hn : l.length ≤ 1000000) :
    Calls Try.prog 30 #[.slice A l.length kap, .slice A' l.length kap'] w fun e w' => e = .returned (.bool true) ∧ Below w.heap.size w w' := by
  have h := same_c l l A A' kap kap' w hl hm hn hn
  rw [decide_eq_true (rfl : l = l)] at h
  exact h
theorem pr_keep (h : Pr w0 L xs M S Sb fly A kap bs bo x w) : w.cell? ⟨bs, 0, none⟩ = some (.slice (some ⟨Sb.gp, 0, none⟩) L.P.length Sb.kp) ∧ w.cell? ⟨bs, 1, none⟩ = some (.slice (some ⟨Sb.g, 0, none⟩) L.P.length Sb.kn) := ⟨h.bx.cell 0 rfl, h.bx.cell 1 rfl⟩
theorem swc_keep {pz : Int} (h : SwC w L S bs bo x pz) : w.cell? ⟨bs, 0, none⟩ = some (.slice (some ⟨S.gp, 0, none⟩) L.P.length S.kp) ∧ w.cell? ⟨bs, 1, none⟩ = some (.slice (some ⟨S.g, 0, none⟩) L.P.length S.kn) ∧ w.cell? ⟨S.g, 1, none⟩ = some (.int .i64 pz) ∧ w.cell? ⟨bo, 1, none⟩ = some (.int .i64 x.n) := ⟨h.b0, h.b1, h.n1, h.o1⟩
/-- The start. -/
theorem Sl.start (h : St w0 L xs 0 (List.replicate (treeP xs).length ⟨⟨0, 0, [], false⟩, none⟩) [] none 0 w) (hr : RAt w L.P S) : Sl w0 L xs (List.replicate (treeP xs).length ⟨⟨0, 0, [], false⟩, none⟩) S [] none 0 w :=
  ⟨h.P, h.root, h.ch, hr, World.ownsRow_nil _ _ _ _, h.sl, h.bel⟩
theorem Sm.start {P : List Int} (hP : P = treeP xs) (hr : rps S = List.replicate (treeP xs).length ⟨0, 0, false, []⟩) : Sm P (sns (List.replicate (treeP xs).length ⟨⟨0, 0, [], false⟩, none⟩)) (rps S) 0 0 := by
  subst hP
  rw [sns_rep, hr]
  exact ⟨Sim.start, fun v => by rw [nd_rep]; exact Nat.le_refl _, by omega⟩
end
end Go.Proofs.Ytibmbhnpmfgclaa
