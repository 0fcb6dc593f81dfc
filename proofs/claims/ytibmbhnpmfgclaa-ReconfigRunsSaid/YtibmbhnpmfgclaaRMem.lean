/- Reconfig: how a change lies in memory: what never changes, the nodes, the maps of answers; stores into one node. -/
import Derived.Test.YtibmbhnpmfgclaaProg
import Derived.Test.YtibmbhnpmfgclaaMaps
import Derived.Test.YtibmbhnpmfgclaaRowBlk
import Derived.Test.YtibmbhnpmfgclaaRegK
import Derived.Test.YtibmbhnpmfgclaaRPlain
namespace Go.Proofs.Ytibmbhnpmfgclaa
set_option linter.unusedVariables false
set_option linter.unusedSimpArgs false
open Go.RowKit Go.Maps
def icell (x : Int) : List Value := [.int .i64 x]
theorem icell_len (x : Int) : (icell x).length = 1 := rfl
structure Pt where
  A : Option Addr
  cap : Nat
  L : List Int
deriving Inhabited
def pcell (p : Pt) : List Value := [.slice p.A p.L.length p.cap]
theorem pcell_len (p : Pt) : (pcell p).length = 1 := rfl
def mcell (m : Mg) : List Value := [.int .i64 m.kind, .int .i64 m.frm, .int .i64 m.to_, .int .i64 m.ep]
theorem mcell_len (m : Mg) : (mcell m).length = 4 := rfl
def mv (m : Mg) : Value := .agg #[.int .i64 m.kind, .int .i64 m.frm, .int .i64 m.to_, .int .i64 m.ep]
structure Nm where
  x : Sn
  mb : Option Nat
deriving Inhabited
def smcell (n : Nm) : List Value := [.int .i64 n.x.ep, .int .i64 n.x.ph, .map n.mb, .bool n.x.dr]
theorem smcell_len (n : Nm) : (smcell n).length = 4 := rfl
def anF (l : List Nat) (z : Int) : Option Value := if 0 ≤ z ∧ z.toNat ∈ l then some (.bool true) else none
theorem anF_nat (l : List Nat) (k : Nat) : anF l k = if k ∈ l then some (.bool true) else none := by simp [anF]
theorem anF_add (l : List Nat) (k : Nat) (z : Int) : anF (addA l k) z = if z = (k : Int) then some (.bool true) else anF l z := by
  unfold anF
  by_cases h : z = (k : Int)
  · subst h; simp [mem_addA]
  · rw [if_neg h]
    by_cases h0 : 0 ≤ z
    · have : z.toNat ≠ k := by omega
      simp [h0, mem_addA, this]
    · simp [h0]
theorem infoI : (Try.prog.info? 3).map (fun i => (i.zero, i.size, i.bytes)) = some (some (.int .i64 0), 1, 8) := by kernel_rfl
theorem infoM : (Try.prog.info? 39).map (fun i => (i.zero, i.size, i.bytes)) = some (some (.agg #[.int .i64 0, .int .i64 0, .int .i64 0, .int .i64 0]), 4, 32) := by kernel_rfl
theorem zeroB_ (w : World) : (zeroValue 4).run Try.prog w = .ok (.bool false) w := by kernel_rfl
/-- Where a change lies. -/
structure Lay where
  P : List Int
  root : Nat
  b : Nat
  Ap : Option Addr
  kp : Nat
  gC : Nat
  pts : List Pt
  gN : Nat
theorem own_own_ne {w : World} {B B' sz sz' n n' : Nat} {e e' : TypeId} {v v' : Value} {xs xs' : List Value} (h : w.ownsRow B e sz v n xs) (h' : w.ownsRow B' e' sz' v' n' xs') (hne : e ≠ e') {g : Nat} (hg : v.ownBlock = some g) : v'.ownBlock ≠ some g := by
  intro hg'
  rcases h.2 with ⟨rfl, _⟩ | ⟨g1, cap, cur, rfl, _, hh, _⟩
  · simp [Value.ownBlock] at hg
  · rcases h'.2 with ⟨rfl, _⟩ | ⟨g2, cap2, cur2, rfl, _, hh2, _⟩
    · simp [Value.ownBlock] at hg'
    · have e1 : g1 = g := by simpa [Value.ownBlock] using hg
      have e2 : g2 = g := by simpa [Value.ownBlock] using hg'
      subst e1; subst e2
      rw [hh] at hh2
      injection hh2 with hh2
      injection hh2 with _ ht
      exact hne ht
theorem own_grown {w w' : World} {B sz n : Nat} {e : TypeId} {v v' : Value} {xs : List Value} (h : w.ownsRow B e sz v n xs) (hg : w.grownBy w' v'.ownBlock) (hne : ∀ g, v.ownBlock = some g → v'.ownBlock ≠ some g) : w'.ownsRow B e sz v n xs :=
  own_move h fun g hb => hg.block g (h.lt g hb).2 (fun e => hne g hb e.symm)
/-- What never changes. -/
structure Fix (w : World) (L : Lay) : Prop where
  box : Blk w L.b 82 #[.slice L.Ap L.P.length L.kp, .slice (some ⟨L.gC, 0, none⟩) L.P.length L.P.length, .int .i64 L.root, .slice (some ⟨L.gN, 0, none⟩) L.P.length L.P.length]
  par : w.ownsRow 0 3 1 (.slice L.Ap L.P.length L.kp) L.P.length (L.P.flatMap icell)
  ch : RowBlk w L.gC 22 pcell L.pts
  chl : L.pts.length = L.P.length
  chk : ∀ v pt, L.pts[v]? = some pt → w.ownsRow 0 3 1 (.slice pt.A pt.L.length pt.cap) pt.L.length (pt.L.flatMap icell) ∧ pt.L = (kids L.P v).map fun (i : Nat) => (i : Int)
  rt : L.root < L.P.length
  sm : L.P.length ≤ 1000000
/-- Blocks whose cells are of none of a change's types. -/
def Other (w : World) (g : Nat) : Prop := ∃ t cs, Blk w g t cs ∧ t ≠ 82 ∧ t ≠ 3 ∧ t ≠ 22
theorem own_keep {w w' : World} {S : Nat → Prop} {B sz n : Nat} {e : TypeId} {v : Value} {xs : List Value} (h : w.ownsRow B e sz v n xs) (k : OnlyP S w w') (hne : ∀ g, v.ownBlock = some g → ¬ S g) : w'.ownsRow B e sz v n xs :=
  own_move h fun g hb => k.block g (h.lt g hb).2 (hne g hb)
theorem own_map_ne {P : Program} {w : World} {k : TypeId} {b s : Nat} {f : Int → Option Value} {base sz n : Nat} {e : TypeId} {v : Value} {xs : List Value} (h : w.ownsRow base e sz v n xs) (hm : MapI P k w b s f) : v.ownBlock ≠ some b := by
  rcases h.2 with ⟨rfl, _⟩ | ⟨g', cap, cur, rfl, _, hh, _⟩
  · simp [Value.ownBlock]
  · intro he
    have : g' = b := by simpa [Value.ownBlock] using he
    subst this
    exact MapAt.ne hm (t := e) (cs := cur) hh rfl
section
variable {w w' : World} {L : Lay} {S : Nat → Prop}
theorem Fix.only (h : Fix w L) (k : OnlyP S w w') (h1 : ¬ S L.b) (h2 : ¬ S L.gC) (h3 : ∀ g, S g → ∀ base sz n v xs, w.ownsRow base 3 sz v n xs → v.ownBlock ≠ some g) : Fix w' L :=
  ⟨h.box.only k h1, own_keep h.par k fun g hg hs => h3 g hs _ _ _ _ _ h.par hg, h.ch.only k h2, h.chl, fun v pt hv => ⟨own_keep (h.chk v pt hv).1 k fun g hg hs => h3 g hs _ _ _ _ _ (h.chk v pt hv).1 hg, (h.chk v pt hv).2⟩, h.rt, h.sm⟩
theorem Fix.new_ (h : Fix w L) (k : Below w.heap.size w w') : Fix w' L :=
  ⟨h.box.new_ k, own_new h.par k, h.ch.new_ k, h.chl, fun v pt hv => ⟨own_new (h.chk v pt hv).1 k, (h.chk v pt hv).2⟩, h.rt, h.sm⟩
end
/-- A node's map of answers. -/
def NodeMap (w : World) (m : Nm) : Prop := (m.x.ph = 1 ∨ m.x.ph = 3) → ∃ g, m.mb = some g ∧ MapI Try.prog 3 w g m.x.an.length (anF m.x.an)
structure ChAt (w : World) (L : Lay) (M : List Nm) : Prop where
  fix : Fix w L
  nodes : RowBlk w L.gN 89 smcell M
  len : M.length = L.P.length
  maps : ∀ m, m ∈ M → NodeMap w m
  mlt : ∀ m, m ∈ M → ∀ g, m.mb = some g → g < w.heap.size ∧ ∀ t cs, ¬ Blk w g t cs
  dist : ∀ (u v : Nat) (a c : Nm) (g : Nat), M[u]? = some a → M[v]? = some c → a.mb = some g → c.mb = some g → u = v
def sns (M : List Nm) : List Sn := M.map Nm.x
theorem sns_get {M : List Nm} {v : Nat} {m : Nm} (h : M[v]? = some m) : nd (sns M) v = m.x := nd_get (by simp [sns, h])
theorem sns_set (M : List Nm) (v : Nat) (m : Nm) : sns (M.set v m) = (sns M).set v m.x := by simp [sns, List.map_set]
theorem sns_len (M : List Nm) : (sns M).length = M.length := by simp [sns]
/-- The blocks that a step may write. -/
def SL (L : Lay) (M : List Nm) (g : Nat) : Prop := g = L.gN ∨ ∃ m, m ∈ M ∧ m.mb = some g
theorem flat_set1 {α : Type} {f : α → List Value} {sz : Nat} (hf : ∀ x, (f x).length = sz) (hs : 0 < sz) {l : List α} {k : Nat} {x y : α} (hk : l[k]? = some x) {j : Nat} (hj : j < sz) {a : Value} (hx : f y = (f x).set j a) : ((l.flatMap f).set (k * sz + j) a) = ((l.set k y).flatMap f) := by
  have hkl : k < l.length := (List.getElem?_eq_some_iff.1 hk).1
  apply List.ext_getElem?
  intro i
  rw [flat_set hf hs hkl, List.getElem?_set, flat_len hf]
  by_cases e : i / sz = k
  · rw [if_pos e, hx, List.getElem?_set]
    have hm := Nat.div_add_mod' i sz
    rw [e] at hm
    have hlt : i % sz < sz := Nat.mod_lt _ hs
    by_cases e2 : k * sz + j = i
    · have : j = i % sz := by omega
      have hle : (k + 1) * sz ≤ l.length * sz := Nat.mul_le_mul_right _ hkl
      rw [Nat.succ_mul] at hle
      rw [if_pos e2, if_pos (by omega), if_pos this, if_pos (by rw [hf]; exact hj)]
    · rw [if_neg e2, if_neg (by omega)]
      have hq := flat_get hf hk (List.getElem?_eq_getElem (show i % sz < (f x).length by rw [hf]; exact hlt))
      rw [hm] at hq
      rw [hq, List.getElem?_eq_getElem]
  · rw [if_neg e]
    have : k * sz + j ≠ i := by
      rintro rfl
      apply e
      rw [Nat.mul_comm, Nat.mul_add_div hs, Nat.div_eq_of_lt hj, Nat.add_zero]
    rw [if_neg this]
theorem RowBlk.setj {α : Type} {w : World} {g : Nat} {t : TypeId} {f : α → List Value} {l : List α} {sz : Nat} (h : RowBlk w g t f l) (hf : ∀ x, (f x).length = sz) (hs : 0 < sz) {k : Nat} {x y : α} (hk : l[k]? = some x) {j : Nat} (hj : j < sz) {a : Value} (hx : f y = (f x).set j a) : RowBlk (w.setCell ⟨g, k * sz + j, none⟩ a) g t f (l.set k y) := by
  refine Blk.to h (k * sz + j) a ?_
  rw [← flat_set1 hf hs hk hj hx]
  simp
section
variable {w w' : World} {L : Lay} {M : List Nm} {S : Nat → Prop}
theorem mb_new (h : ChAt w L M) (k : Below w.heap.size w w') (m : Nm) (hm : m ∈ M) (g : Nat) (hg : m.mb = some g) : g < w'.heap.size ∧ ∀ t cs, ¬ Blk w' g t cs := by
  obtain ⟨h1, h2⟩ := h.mlt m hm g hg
  refine ⟨Nat.lt_of_lt_of_le h1 k.size, fun t cs hb => h2 t cs ?_⟩
  unfold Blk at hb ⊢
  rw [← k.block g h1]; exact hb
theorem ChAt.new_ (h : ChAt w L M) (k : Below w.heap.size w w') : ChAt w' L M :=
  ⟨h.fix.new_ k, h.nodes.new_ k, h.len, fun m hm hp => by
    obtain ⟨g, h1, h2⟩ := h.maps m hm hp
    exact ⟨g, h1, MapAt.new_ h2 k⟩, mb_new h k, h.dist⟩
/-- Blocks of other types may be written. -/
theorem ChAt.only (h : ChAt w L M) (k : OnlyP S w w') (hS : ∀ g, S g → g < w.heap.size → ∃ t cs, Blk w g t cs ∧ t ≠ 82 ∧ t ≠ 3 ∧ t ≠ 22 ∧ t ≠ 89) : ChAt w' L M := by
  have hblk : ∀ {g t cs}, Blk w g t cs → (t = 82 ∨ t = 3 ∨ t = 22 ∨ t = 89) → ¬ S g := fun hb ht hs => by
    obtain ⟨t', cs', h1, h2, h3, h4, h5⟩ := hS _ hs hb.lt
    refine Blk.ne_ hb h1 ?_ rfl
    rcases ht with rfl | rfl | rfl | rfl
    · exact fun e => h2 e.symm
    · exact fun e => h3 e.symm
    · exact fun e => h4 e.symm
    · exact fun e => h5 e.symm
  have hmap : ∀ m, m ∈ M → ∀ g, m.mb = some g → ¬ S g := fun m hm g hg hs => by
    obtain ⟨h1, h2⟩ := h.mlt m hm g hg
    obtain ⟨t', cs', h3, _⟩ := hS _ hs h1
    exact h2 _ _ h3
  refine ⟨h.fix.only k (hblk h.fix.box (.inl rfl)) (hblk h.fix.ch (.inr (.inr (.inl rfl)))) (fun g hs base sz n v xs ho hv => ?_), h.nodes.only k (hblk h.nodes (.inr (.inr (.inr rfl)))), h.len, fun m hm hp => ?_, fun m hm g hg => ?_, h.dist⟩
  · rcases ho.2 with ⟨rfl, _⟩ | ⟨g', cap, cur, rfl, _, hh, _⟩
    · simp [Value.ownBlock] at hv
    · have : g' = g := by simpa [Value.ownBlock] using hv
      subst this
      exact hblk (t := 3) (cs := cur) hh (.inr (.inl rfl)) hs
  · obtain ⟨g, h1, h2⟩ := h.maps m hm hp
    exact ⟨g, h1, MapAt.only h2 k (hmap m hm g h1)⟩
  · obtain ⟨h1, h2⟩ := h.mlt m hm g hg
    refine ⟨Nat.lt_of_lt_of_le h1 k.size, fun t cs hb => h2 t cs ?_⟩
    unfold Blk at hb ⊢
    rw [← k.block g h1 (hmap m hm g hg)]; exact hb
theorem ChAt.fixS (h : ChAt w L M) (k : OnlyP (SL L M) w w') : Fix w' L := by
  have hmap : ∀ m, m ∈ M → ∀ g, m.mb = some g → ∀ t cs, ¬ Blk w g t cs := fun m hm g hg => (h.mlt m hm g hg).2
  refine h.fix.only k ?_ ?_ (fun g hs base sz n v xs ho hv => ?_)
  · rintro (e | ⟨m, hm, hg⟩)
    · exact Blk.ne_ h.fix.box h.nodes (by decide) e
    · exact hmap m hm _ hg _ _ h.fix.box
  · rintro (e | ⟨m, hm, hg⟩)
    · exact Blk.ne_ h.fix.ch h.nodes (by decide) e
    · exact hmap m hm _ hg _ _ h.fix.ch
  · rcases ho.2 with ⟨rfl, _⟩ | ⟨g', cap, cur, rfl, _, hh, _⟩
    · simp [Value.ownBlock] at hv
    · have : g' = g := by simpa [Value.ownBlock] using hv
      subst this
      rcases hs with e | ⟨m, hm, hg⟩
      · exact Blk.ne_ (t := 3) (cs := cur) hh h.nodes (by decide) e
      · exact hmap m hm _ hg _ _ hh
/-- One node is written anew; its map may be, and it may get a new one. -/
theorem ChAt.put (h : ChAt w L M) {v : Nat} {m m' : Nm} (hv : M[v]? = some m) (k : OnlyP (fun g => g = L.gN ∨ m.mb = some g) w w') (hn : RowBlk w' L.gN 89 smcell (M.set v m')) (hm : NodeMap w' m')
    (hg : m'.mb = m.mb ∨ m'.mb = none ∨ ∃ g, m'.mb = some g ∧ w.heap.size ≤ g) (hg2 : ∀ g, m'.mb = some g → g < w'.heap.size ∧ ∀ t cs, ¬ Blk w' g t cs) : ChAt w' L (M.set v m') := by
  have hvl : v < M.length := (List.getElem?_eq_some_iff.1 hv).1
  have hvm : m ∈ M := List.mem_of_getElem? hv
  have hk2 : OnlyP (SL L M) w w' := k.mono fun g hg => by
    rcases hg with e | e
    · exact .inl e
    · exact .inr ⟨m, hvm, e⟩
  have hat : ∀ u a, (M.set v m')[u]? = some a → (u = v ∧ a = m') ∨ (u ≠ v ∧ M[u]? = some a) := fun u a hu => by
    rw [List.getElem?_set] at hu
    by_cases e : v = u
    · rw [if_pos e, if_pos hvl] at hu
      injection hu with hu
      exact .inl ⟨e.symm, hu.symm⟩
    · rw [if_neg e] at hu; exact .inr ⟨fun h => e h.symm, hu⟩
  have hoth : ∀ u a g, u ≠ v → M[u]? = some a → a.mb = some g → ¬ (g = L.gN ∨ m.mb = some g) := fun u a g hu ha hag hh => by
    rcases hh with e | e
    · subst e; exact (h.mlt a (List.mem_of_getElem? ha) _ hag).2 _ _ h.nodes
    · exact hu (h.dist u v a m g ha hv hag e)
  refine ⟨h.fixS hk2, hn, by rw [List.length_set, h.len], fun a ha => ?_, fun a ha g hag => ?_, fun u1 u2 a c g hu1 hu2 hag hcg => ?_⟩
  · obtain ⟨u, hu, rfl⟩ := List.getElem_of_mem ha
    rcases hat u _ (List.getElem?_eq_getElem hu) with ⟨_, e⟩ | ⟨e, hu2⟩
    · rw [e]; exact hm
    · intro hp
      obtain ⟨g, h1, h2⟩ := h.maps _ (List.mem_of_getElem? hu2) hp
      exact ⟨g, h1, MapAt.only h2 k (hoth u _ g e hu2 h1)⟩
  · obtain ⟨u, hu, rfl⟩ := List.getElem_of_mem ha
    rcases hat u _ (List.getElem?_eq_getElem hu) with ⟨_, e⟩ | ⟨e, hu2⟩
    · rw [e] at hag; exact hg2 g hag
    · obtain ⟨h1, h2⟩ := h.mlt _ (List.mem_of_getElem? hu2) g hag
      refine ⟨Nat.lt_of_lt_of_le h1 k.size, fun t cs hb => h2 t cs ?_⟩
      unfold Blk at hb ⊢
      rw [← k.block g h1 (hoth u _ g e hu2 hag)]; exact hb
  · have hnew : ∀ u a, u ≠ v → M[u]? = some a → a.mb = some g → m'.mb = some g → False := fun u a hu ha hag hmg => by
      rcases hg with e | e | ⟨g', e, hge⟩
      · exact hu (h.dist u v a m g ha hv hag (by rw [← e]; exact hmg))
      · rw [e] at hmg; cases hmg
      · rw [e] at hmg; injection hmg with hmg; subst hmg
        have := (h.mlt a (List.mem_of_getElem? ha) _ hag).1
        omega
    rcases hat u1 a hu1 with ⟨e1, rfl⟩ | ⟨e1, h1⟩
    · rcases hat u2 c hu2 with ⟨e2, rfl⟩ | ⟨e2, h2⟩
      · rw [e1, e2]
      · exact (hnew u2 c e2 h2 hcg hag).elim
    · rcases hat u2 c hu2 with ⟨e2, rfl⟩ | ⟨e2, h2⟩
      · exact (hnew u1 a e1 h1 hag hcg).elim
      · exact h.dist u1 u2 a c g h1 h2 hag hcg
theorem map_notblk {g s : Nat} {f : Int → Option Value} (h : MapI Try.prog 3 w g s f) : ∀ t cs, ¬ Blk w g t cs := fun t cs hb => MapAt.ne h hb rfl
end
/-- What a step leaves: the change with the nodes of o, the messages of o in a row of the call's own. -/
def Upd (w : World) (L : Lay) (M : List Nm) (o : OutP) (e : Ending) (w' : World) : Prop :=
  ∃ (M' : List Nm) (A : Option Addr) (kap : Nat), e = .returned (.slice A o.2.length kap) ∧ sns M' = o.1 ∧ ChAt w' L M' ∧ w'.ownsRow w.heap.size 39 4 (.slice A o.2.length kap) o.2.length (o.2.flatMap mcell) ∧ OnlyP (SL L M) w w' ∧ (∀ g, SL L M' g → SL L M g ∨ w.heap.size ≤ g)
theorem Upd.after {w w1 w' : World} {L : Lay} {M M1 : List Nm} {o : OutP} {e : Ending} (h : Upd w1 L M1 o e w') (k : OnlyP (SL L M) w w1) (hs : ∀ g, SL L M1 g → SL L M g ∨ w.heap.size ≤ g) : Upd w L M o e w' := by
  obtain ⟨M', A, kap, h1, h2, h3, h4, h5, h6⟩ := h
  refine ⟨M', A, kap, h1, h2, h3, own_base h4 k.size, k.step h5 (fun i hi hs1 => ?_), fun g hg => ?_⟩
  · rcases hs i hs1 with h | h
    · exact h
    · omega
  · rcases h6 g hg with h | h
    · exact hs g h
    · have := k.size; exact .inr (by omega)
theorem sl_set {L : Lay} {M : List Nm} {v : Nat} {m m' : Nm} {B : Nat} (hv : M[v]? = some m) (hg : m'.mb = m.mb ∨ m'.mb = none ∨ ∃ g, m'.mb = some g ∧ B ≤ g) (g : Nat) (h : SL L (M.set v m') g) : SL L M g ∨ B ≤ g := by
  rcases h with e | ⟨a, ha, hag⟩
  · exact .inl (.inl e)
  · rcases List.mem_or_eq_of_mem_set ha with h | rfl
    · exact .inl (.inr ⟨a, h, hag⟩)
    · rcases hg with e | e | ⟨g', e, hge⟩
      · exact .inl (.inr ⟨m, List.mem_of_getElem? hv, by rw [← e]; exact hag⟩)
      · rw [e] at hag; cases hag
      · rw [e] at hag; injection hag with hag; subst hag; exact .inr hge
end Go.Proofs.Ytibmbhnpmfgclaa
