/- Reconfig: the reference as mathematics, and how its state lies in memory. -/
import Derived.Test.YtibmbhnpmfgclaaRFly
namespace Go.Proofs.Ytibmbhnpmfgclaa
set_option linter.unusedVariables false
set_option linter.unusedSimpArgs false
open Go.RowKit Go.Maps
structure Rp where
  ep : Nat
  ph : Nat
  dr : Bool
  L : List Bool
deriving Inhabited
def rd (rs : List Rp) (v : Nat) : Rp := rs.getD v ⟨0, 0, false, []⟩
theorem rd_get {rs : List Rp} {v : Nat} {x : Rp} (h : rs[v]? = some x) : rd rs v = x := by simp [rd, h]
theorem rd_some {rs : List Rp} {v : Nat} (h : v < rs.length) : rs[v]? = some (rd rs v) := by simp [rd, h]
theorem rd_set {rs : List Rp} {v : Nat} (hv : v < rs.length) (x : Rp) (u : Nat) : rd (rs.set v x) u = if u = v then x else rd rs u := by
  unfold rd
  simp only [List.getD_eq_getElem?_getD, List.getElem?_set]
  by_cases h : v = u
  · subst h; simp [hv]
  · rw [if_neg h, if_neg (fun e => h e.symm)]
def rDown (P : List Int) (kind : Int) (v : Nat) (ep : Int) : List Mg := (kids P v).map fun (c : Nat) => ⟨kind, v, c, ep⟩
def rAll (P : List Int) (x : Rp) (v : Nat) : Bool := (kids P v).all fun c => x.L.getD c false
abbrev OutR := List Rp × List Mg
def rCommit (P : List Int) (rs : List Rp) (v : Nat) : OutR := (rs.set v ⟨(rd rs v).ep + 1, 3, false, List.replicate P.length false⟩, rDown P 3 v ((rd rs v).ep + 1))
def rPrepared (P : List Int) (rs : List Rp) (v : Nat) : OutR := if parI P v < 0 then rCommit P rs v else (rs.set v { rd rs v with ph := 2 }, riseP P 2 v ((rd rs v).ep + 1))
def rRest (P : List Int) (rs : List Rp) (v : Nat) : OutR :=
  if (rd rs v).dr && rAll P (rd rs v) v then (rs.set v { rd rs v with ph := 0 }, if parI P v < 0 then [] else riseP P 4 v (rd rs v).ep) else (rs, [])
def rBegin (P : List Int) (rs : List Rp) (v : Nat) : OutR :=
  if kids P v = [] then rPrepared P (rs.set v ⟨(rd rs v).ep, 1, (rd rs v).dr, List.replicate P.length false⟩) v
  else (rs.set v ⟨(rd rs v).ep, 1, (rd rs v).dr, List.replicate P.length false⟩, rDown P 1 v ((rd rs v).ep + 1))
/-- An element of a slice of bools; a node. -/
def ycell (b : Bool) : List Value := [.bool b]
theorem ycell_len (b : Bool) : (ycell b).length = 1 := rfl
structure Rn where
  x : Rp
  A : Option Addr
  k : Nat
deriving Inhabited
def rcell (n : Rn) : List Value := [.int .i64 n.x.ep, .int .i64 n.x.ph, .bool n.x.dr, .slice n.A n.x.L.length n.k]
theorem rcell_len (n : Rn) : (rcell n).length = 4 := rfl
/-- A row at the head of block g, whose type is t. -/
structure OwnAt {α : Type} (w : World) (g : Nat) (t : TypeId) (sz : Nat) (f : α → List Value) (l : List α) : Prop where
  rows : RowsAt w (g + 1) sz f (some ⟨g, 0, none⟩) l
  blk : ∃ cs, Blk w g t cs
section
variable {α : Type} {w w' : World} {g sz : Nat} {t : TypeId} {f : α → List Value} {l : List α}
theorem OwnAt.lt (h : OwnAt w g t sz f l) : g < w.heap.size := h.blk.elim fun _ hb => hb.lt
theorem OwnAt.free (h : OwnAt w g t sz f l) (i : Nat) : w.frozen? ⟨g, i, none⟩ = false := h.blk.elim fun _ hb => hb.free i
theorem OwnAt.same (h : OwnAt w g t sz f l) (hs : w.heap.size ≤ w'.heap.size) (hb : w'.heap[g]? = w.heap[g]?) : OwnAt w' g t sz f l := by
  obtain ⟨cs, hc⟩ := h.blk
  refine ⟨⟨h.rows.sz0, h.rows.hf, Reads.blk h.rows.rd hb⟩, cs, ?_⟩
  unfold Blk at hc ⊢
  rw [hb]; exact hc
theorem OwnAt.new_ (h : OwnAt w g t sz f l) (hb : Below w.heap.size w w') : OwnAt w' g t sz f l := h.same hb.size (hb.block g h.lt)
theorem OwnAt.only {S : Nat → Prop} (h : OwnAt w g t sz f l) (k : OnlyP S w w') (hne : ¬ S g) : OwnAt w' g t sz f l := h.same k.size (k.block g h.lt hne)
theorem OwnAt.grown {row : Option Nat} (h : OwnAt w g t sz f l) (hb : w.grownBy w' row) (hg : some g ≠ row) : OwnAt w' g t sz f l := h.same hb.size (hb.block g h.lt hg)
theorem OwnAt.far (h : OwnAt w g t sz f l) {p : Addr} (hp : g ≠ p.block) (u : Value) : OwnAt (w.setCell p u) g t sz f l := by
  obtain ⟨cs, hc⟩ := h.blk
  have h2 := Blk.far hc hp u
  refine h.same (by simp [World.setCell]) ?_
  unfold Blk at hc h2
  rw [h2, hc]
theorem OwnAt.drew (h : OwnAt w g t sz f l) : OwnAt w.drew g t sz f l := ⟨⟨h.rows.sz0, h.rows.hf, h.rows.rd⟩, h.blk⟩
theorem OwnAt.cell (h : OwnAt w g t sz f l) {k : Nat} {x : α} (hk : l[k]? = some x) {j : Nat} {u : Value} (hj : (f x)[j]? = some u) : w.cell? ⟨g, k * sz + j, none⟩ = some u := by
  obtain ⟨y, b, off, hy, e, _, _, hc⟩ := h.rows.at_ (List.getElem?_eq_some_iff.1 hk).1
  injection e with e
  injection e with e1 e2
  subst e1; subst e2
  rw [hk] at hy; injection hy with hy; subst hy
  have := hc j u hj
  rwa [Nat.zero_add] at this
theorem OwnAt.setj (h : OwnAt w g t sz f l) {k : Nat} {x y : α} (hk : l[k]? = some x) {j : Nat} (hj : j < sz) {a : Value} (hx : f y = (f x).set j a) : OwnAt (w.setCell ⟨g, k * sz + j, none⟩ a) g t sz f (l.set k y) := by
  obtain ⟨cs, hb⟩ := h.blk
  refine ⟨⟨h.rows.sz0, h.rows.hf, ?_⟩, ⟨_, hb.set_ (k * sz + j) a⟩⟩
  rw [← flat_set1 h.rows.hf h.rows.sz0 hk hj hx]
  obtain ⟨b, off, e, h1, h2, hc⟩ := h.rows.rd.spot (by have := (List.getElem?_eq_some_iff.1 hk).1; omega) h.rows.sz0
  injection e with e
  injection e with e1 e2
  subst e1; subst e2
  refine ⟨by rw [List.length_set, flat_len h.rows.hf, List.length_set], fun _ => ⟨_, rfl, h1, fun i u hu => ?_⟩⟩
  rw [List.getElem?_set] at hu
  have ea : (Addr.add ⟨g, 0, none⟩ i) = ⟨g, i, none⟩ := by unfold Addr.add; split <;> simp_all
  rw [ea]
  by_cases hi : k * sz + j = i
  · rw [if_pos hi] at hu
    split at hu
    · rename_i hlt
      have hold := hc i _ (List.getElem?_eq_getElem (by omega))
      rw [Nat.zero_add] at hold
      rw [hi, World.cell?_setCell_same _ _ _ hold]
      exact hu
    · cases hu
  · rw [if_neg hi] at hu
    have hold := hc i u hu
    rw [Nat.zero_add] at hold
    rw [World.cell?_setCell_other (h := fun e => hi (by injection e))]
    exact hold
theorem OwnAt.ne {β : Type} {g' sz' : Nat} {t' : TypeId} {f' : β → List Value} {l' : List β} (h : OwnAt w g t sz f l) (h' : OwnAt w g' t' sz' f' l') (hne : t ≠ t') : g ≠ g' := by
  obtain ⟨_, hb⟩ := h.blk
  obtain ⟨_, hb'⟩ := h'.blk
  exact Blk.ne_ hb hb' hne
theorem OwnAt.of_own {B n kap : Nat} {A : Option Addr} (h : w.ownsRow B t sz (.slice A n kap) n (l.flatMap f)) (hf : ∀ x, (f x).length = sz) (hs : 0 < sz) (hn : n = l.length) (h0 : 0 < n) : ∃ g, A = some ⟨g, 0, none⟩ ∧ B ≤ g ∧ OwnAt w g t sz f l := by
  obtain ⟨g, rfl, hB, hlt⟩ := own_some h h0
  subst hn
  refine ⟨g, rfl, hB, ⟨hs, hf, ?_⟩, own_blk h⟩
  have := Reads.of_own h
  exact ⟨this.1, fun hn => by
    obtain ⟨ad, e, _, hc⟩ := this.2 hn
    injection e with e
    subst e
    exact ⟨_, rfl, Nat.lt_succ_self _, hc⟩⟩
end
structure RSt where
  gp : Nat
  kp : Nat
  g : Nat
  kn : Nat
  N : List Rn
deriving Inhabited
def rps (S : RSt) : List Rp := S.N.map Rn.x
theorem rps_get {S : RSt} {v : Nat} {n : Rn} (h : S.N[v]? = some n) : rd (rps S) v = n.x := rd_get (by simp [rps, h])
theorem rps_set {S : RSt} {v : Nat} {n : Rn} : rps { S with N := S.N.set v n } = (rps S).set v n.x := by simp [rps, List.map_set]
theorem rps_len (S : RSt) : (rps S).length = S.N.length := by simp [rps]
def rcells (P : List Int) (S : RSt) : List Value := [.slice (some ⟨S.gp, 0, none⟩) P.length S.kp, .slice (some ⟨S.g, 0, none⟩) P.length S.kn]
/-- How the reference's state lies. -/
structure RAt (w : World) (P : List Int) (S : RSt) : Prop where
  pos : 0 < P.length
  sm : P.length ≤ 1000000
  par : OwnAt w S.gp 3 1 icell P
  nodes : OwnAt w S.g 68 4 rcell S.N
  len : S.N.length = P.length
  lle : ∀ n, n ∈ S.N → n.x.L.length ≤ P.length
  ans : ∀ n, n ∈ S.N → n.x.L ≠ [] → ∃ g, n.A = some ⟨g, 0, none⟩ ∧ OwnAt w g 4 1 ycell n.x.L
  dist : ∀ (u v : Nat) (a c : Rn), S.N[u]? = some a → S.N[v]? = some c → a.x.L ≠ [] → c.x.L ≠ [] → a.A = c.A → u = v
section
variable {w w' : World} {P : List Int} {S : RSt}
theorem RAt.reads (h : RAt w P S) {n : Rn} (hn : n ∈ S.N) : Reads w w.heap.size 1 n.A n.x.L.length (n.x.L.flatMap ycell) := by
  by_cases hl : n.x.L = []
  · rw [hl]; exact ⟨by simp, fun h => by simp at h⟩
  · obtain ⟨g, e, ho⟩ := h.ans n hn hl
    rw [e]; exact ho.rows.rd.more ho.lt
theorem RAt.only {T : Nat → Prop} (h : RAt w P S) (k : OnlyP T w w') (h1 : ∀ g, T g → g < w.heap.size → ∃ t cs, Blk w g t cs ∧ t ≠ 3 ∧ t ≠ 4 ∧ t ≠ 68) : RAt w' P S := by
  have hne : ∀ {g t cs}, Blk w g t cs → (t = 3 ∨ t = 4 ∨ t = 68) → ¬ T g := fun hb ht hs => by
    obtain ⟨t', cs', h1, h2, h3, h4⟩ := h1 _ hs hb.lt
    refine Blk.ne_ hb h1 ?_ rfl
    rcases ht with rfl | rfl | rfl
    · exact fun e => h2 e.symm
    · exact fun e => h3 e.symm
    · exact fun e => h4 e.symm
  have hr : ∀ {α : Type} {g : Nat} {t : TypeId} {sz : Nat} {f : α → List Value} {l : List α}, OwnAt w g t sz f l → (t = 3 ∨ t = 4 ∨ t = 68) → OwnAt w' g t sz f l := fun ho ht => by
    obtain ⟨cs, hb⟩ := ho.blk
    exact ho.only k (hne hb ht)
  exact ⟨h.pos, h.sm, hr h.par (.inl rfl), hr h.nodes (.inr (.inr rfl)), h.len, h.lle, fun n hn hl => by
    obtain ⟨g, e, ho⟩ := h.ans n hn hl
    exact ⟨g, e, hr ho (.inr (.inl rfl))⟩, h.dist⟩
theorem RAt.new_ (h : RAt w P S) (hb : Below w.heap.size w w') : RAt w' P S :=
  ⟨h.pos, h.sm, h.par.new_ hb, h.nodes.new_ hb, h.len, h.lle, fun n hn hl => by
    obtain ⟨g, e, ho⟩ := h.ans n hn hl
    exact ⟨g, e, ho.new_ hb⟩, h.dist⟩
/-- One node is written; its answers stay as they are or are new. -/
theorem RAt.put (h : RAt w P S) {v : Nat} {n n' : Rn} (hv : S.N[v]? = some n) (k : OnlyP (fun b => b = S.g) w w') (hn : OwnAt w' S.g 68 4 rcell (S.N.set v n')) (hL : n'.x.L.length ≤ P.length)
    (ha : (n'.A = n.A ∧ n'.x.L = n.x.L) ∨ (n'.x.L ≠ [] → ∃ g, n'.A = some ⟨g, 0, none⟩ ∧ w.heap.size ≤ g ∧ OwnAt w' g 4 1 ycell n'.x.L)) : RAt w' P { S with N := S.N.set v n' } := by
  have hvl : v < S.N.length := (List.getElem?_eq_some_iff.1 hv).1
  have hat : ∀ u a, (S.N.set v n')[u]? = some a → (u = v ∧ a = n') ∨ (u ≠ v ∧ S.N[u]? = some a) := fun u a hu => by
    rw [List.getElem?_set] at hu
    by_cases e : v = u
    · rw [if_pos e, if_pos hvl] at hu
      injection hu with hu
      exact .inl ⟨e.symm, hu.symm⟩
    · rw [if_neg e] at hu; exact .inr ⟨fun h => e h.symm, hu⟩
  have hold : ∀ n, n ∈ S.N → n.x.L ≠ [] → ∃ g, n.A = some ⟨g, 0, none⟩ ∧ OwnAt w' g 4 1 ycell n.x.L ∧ g < w.heap.size := fun n hn hl => by
    obtain ⟨g, e, ho⟩ := h.ans n hn hl
    exact ⟨g, e, ho.only k (fun e => (ho.ne h.nodes (by decide)) e), ho.lt⟩
  have hnew : ∀ u a, u ≠ v → S.N[u]? = some a → a.x.L ≠ [] → n'.x.L ≠ [] → a.A = n'.A → False := fun u a hu hua hal hnl e => by
    rcases ha with ⟨h1, h2⟩ | h1
    · exact hu (h.dist u v a n hua hv hal (by rw [← h2]; exact hnl) (e.trans h1))
    · obtain ⟨g, e1, h2, _⟩ := h1 hnl
      obtain ⟨g', e3, _, h4⟩ := hold a (List.mem_of_getElem? hua) hal
      rw [e3, e1] at e
      injection e with e
      injection e with e
      omega
  refine ⟨h.pos, h.sm, h.par.only k (fun e => (h.par.ne h.nodes (by decide)) e), hn, by simp only [List.length_set]; exact h.len, fun a ham => ?_, fun a ham hal => ?_, fun u1 u2 a c hu1 hu2 hal hcl e => ?_⟩
  · obtain ⟨u, hu, rfl⟩ := List.getElem_of_mem ham
    rcases hat u _ (List.getElem?_eq_getElem hu) with ⟨_, e⟩ | ⟨e, hu2⟩
    · rw [e]; exact hL
    · exact h.lle _ (List.mem_of_getElem? hu2)
  · obtain ⟨u, hu, rfl⟩ := List.getElem_of_mem ham
    rcases hat u _ (List.getElem?_eq_getElem hu) with ⟨_, e⟩ | ⟨e, hu2⟩
    · rw [e] at hal ⊢
      rcases ha with ⟨h1, h2⟩ | h1
      · obtain ⟨g, e1, ho, _⟩ := hold n (List.mem_of_getElem? hv) (by rw [← h2]; exact hal)
        exact ⟨g, h1.trans e1, by rw [h2]; exact ho⟩
      · obtain ⟨g, e1, _, ho⟩ := h1 hal
        exact ⟨g, e1, ho⟩
    · obtain ⟨g, e1, ho, _⟩ := hold _ (List.mem_of_getElem? hu2) hal
      exact ⟨g, e1, ho⟩
  · rcases hat u1 a hu1 with ⟨e1, rfl⟩ | ⟨e1, h1⟩
    · rcases hat u2 c hu2 with ⟨e2, rfl⟩ | ⟨e2, h2⟩
      · rw [e1, e2]
      · exact (hnew u2 c e2 h2 hcl hal e.symm).elim
    · rcases hat u2 c hu2 with ⟨e2, rfl⟩ | ⟨e2, h2⟩
      · exact (hnew u1 a e1 h1 hal hcl e).elim
      · exact h.dist u1 u2 a c h1 h2 hal hcl e
end
end Go.Proofs.Ytibmbhnpmfgclaa
