/- Reconfig: the walk of New (printed by gen_rnew.py). -/
import Derived.Test.YtibmbhnpmfgclaaRStep
import Derived.Test.YtibmbhnpmfgclaaRTree
import Derived.Test.YtibmbhnpmfgclaaGValid
namespace Go.Proofs.Ytibmbhnpmfgclaa
set_option linter.unusedVariables false
set_option linter.unusedSimpArgs false
open Go.RowKit Go.Maps
def rootK (P : List Int) : Nat → Nat
  | 0 => 0
  | k + 1 => if P.getD k 0 < 0 then k else rootK P k
theorem rootK_lt {P : List Int} (h : 0 < P.length) {k : Nat} (hk : k ≤ P.length) : rootK P k < P.length := by
  induction k with
  | zero => exact h
  | succ k ih => unfold rootK; split; omega; exact ih (by omega)
theorem rootK_yes {P : List Int} {k : Nat} {x : Int} (h : P[k]? = some x) (hx : x < 0) : rootK P (k + 1) = k := by unfold rootK; rw [List.getD_eq_getElem?_getD, h]; simp [hx]
theorem rootK_no {P : List Int} {k : Nat} {x : Int} (h : P[k]? = some x) (hx : ¬ x < 0) : rootK P (k + 1) = rootK P k := by rw [rootK, List.getD_eq_getElem?_getD, h]; simp [hx]
theorem rootK_tree {P : List Int} (h : Tree P) {k : Nat} (hk : k ≤ P.length) : rootK P k = 0 := by
  induction k with
  | zero => rfl
  | succ k ih =>
    rcases Nat.eq_zero_or_pos k with e | e
    · subst e; exact rootK_yes h.root (by omega)
    · obtain ⟨p, _, hp⟩ := h.up k e (by omega)
      rw [rootK_no hp (by omega)]; exact ih (by omega)
def kidsK (P : List Int) (k v : Nat) : List Nat := (List.range k).filter fun i => P[i]? == some (v : Int)
theorem kidsK_is (P : List Int) (v : Nat) : kidsK P P.length v = kids P v := rfl
theorem kidsK_yes {P : List Int} {k v : Nat} (h : P[k]? = some (v : Int)) : kidsK P (k + 1) v = kidsK P k v ++ [k] := by
  unfold kidsK; rw [List.range_succ, List.filter_append, List.filter_cons_of_pos (by simp [h])]; simp
theorem kidsK_no {P : List Int} {k v : Nat} (h : P[k]? ≠ some (v : Int)) : kidsK P (k + 1) v = kidsK P k v := by
  unfold kidsK; rw [List.range_succ, List.filter_append, List.filter_cons_of_neg (by simpa using h)]; simp
theorem kidsK_len (P : List Int) (k v : Nat) : (kidsK P k v).length ≤ k := by
  unfold kidsK
  have := List.length_filter_le (fun i => P[i]? == some (v : Int)) (List.range k)
  rwa [List.length_range] at this
def ob (A : Option Addr) : Option Nat := (Value.slice A 0 0).ownBlock
theorem ob_eq (A : Option Addr) (n c : Nat) : (Value.slice A n c).ownBlock = ob A := by cases A <;> rfl
/-- A change in the making: a parents appended, c of them sorted in. -/
structure NewAt (w0 w : World) (P : List Int) (a c r b gC gN : Nat) (Ap : Option Addr) (kp : Nat) (pts : List Pt) : Prop where
  box : Blk w b 82 #[.slice Ap a kp, .slice (some ⟨gC, 0, none⟩) P.length P.length, .int .i64 r, .slice (some ⟨gN, 0, none⟩) P.length P.length]
  ch : RowBlk w gC 22 pcell pts
  chl : pts.length = P.length
  nodes : RowBlk w gN 89 smcell (List.replicate P.length ⟨⟨0, 0, [], false⟩, none⟩)
  par : w.ownsRow w0.heap.size 3 1 (.slice Ap a kp) a ((P.take a).flatMap icell)
  chk : ∀ (v : Nat) (pt : Pt), pts[v]? = some pt → w.ownsRow w0.heap.size 3 1 (.slice pt.A pt.L.length pt.cap) pt.L.length (pt.L.flatMap icell) ∧ pt.L = (kidsK P c v).map fun (i : Nat) => (i : Int)
  dis : ∀ (v : Nat) (pt : Pt) (g : Nat), pts[v]? = some pt → ob pt.A = some g → ob Ap ≠ some g
  dis2 : ∀ (u v : Nat) (p q : Pt) (g : Nat), pts[u]? = some p → pts[v]? = some q → ob p.A = some g → ob q.A = some g → u = v
  blw : Below w0.heap.size w0 w
  bb : w0.heap.size ≤ b
  bC : w0.heap.size ≤ gC
  bN : w0.heap.size ≤ gN
section
variable {w0 w w4 : World} {P : List Int} {a c r b gC gN : Nat} {Ap : Option Addr} {kp : Nat} {pts : List Pt}
theorem set_other3 {v : Value} {n : Nat} {xs : List Value} {B g o : Nat} {t : TypeId} {cs : Array Value} (h : w.ownsRow B 3 1 v n xs) (hb : Blk w g t cs) (ht : 3 ≠ t) (u : Value) : (w.setCell ⟨g, o, none⟩ u).ownsRow B 3 1 v n xs :=
  ownsRow_setCell_other h (a := ⟨g, o, none⟩) (own_blk_ne h hb ht) u
theorem NewAt.par_step (h : NewAt w0 w P a c r b gC gN Ap kp pts) {x : Int} (hx : P[a]? = some x) (X : Obj) {Av : Option Addr} {kv : Nat} (ho : w4.ownsRow w0.heap.size 3 1 (.slice Av (a + 1) kv) (a + 1) ((P.take a).flatMap icell ++ [.int .i64 x]))
    (hg : (w.alloc X).grownBy w4 (Value.slice Ap a kp).ownBlock) (hat : (Value.slice Av (a + 1) kv).ownBlock = (Value.slice Ap a kp).ownBlock ∨ (Value.slice Av (a + 1) kv).ownBlock = some (w.alloc X).heap.size) :
    NewAt w0 (w4.setCell ⟨b, 0, none⟩ (.slice Av (a + 1) kv)) P (a + 1) c r b gC gN Av kv pts := by
  have hpa := h.par.alloc X
  have hbx : Blk w4 b 82 _ := (h.box.alloc X).grown hg (fun e => own_blk_ne hpa (h.box.alloc X) (by decide) e.symm)
  have hch := (h.ch.alloc X).grown hg (fun e => own_blk_ne hpa (h.ch.alloc X) (by decide) e.symm)
  have hnd := (h.nodes.alloc X).grown hg (fun e => own_blk_ne hpa (h.nodes.alloc X) (by decide) e.symm)
  have hbc : b ≠ gC := Blk.ne_ h.box h.ch (by decide)
  have hbn : b ≠ gN := Blk.ne_ h.box h.nodes (by decide)
  have hne : ∀ (v : Nat) (pt : Pt) (g : Nat), pts[v]? = some pt → ob pt.A = some g → ob Av ≠ some g := fun v pt g hv hp e => by
    rw [ob_eq, ob_eq] at hat
    rcases hat with q | q
    · exact h.dis v pt g hv hp (by rw [← q]; exact e)
    · rw [q] at e
      injection e with e
      have := (((h.chk v pt hv).1.alloc X).lt g (by rw [ob_eq]; exact hp)).2
      omega
  refine ⟨hbx.to 0 _ rfl, hch.far (fun e => hbc e.symm) _, h.chl, hnd.far (fun e => hbn e.symm) _, ?_, fun v pt hv => ⟨?_, (h.chk v pt hv).2⟩, hne, h.dis2, ?_, h.bb, h.bC, h.bN⟩
  · have := set_other3 (o := 0) ho hbx (by decide) (.slice Av (a + 1) kv)
    rw [take_next hx, List.flatMap_append]
    simpa [icell] using this
  · exact set_other3 (own_grown ((h.chk v pt hv).1.alloc X) hg (fun g hp => by rw [ob_eq] at hp ⊢; exact h.dis v pt g hv hp)) hbx (by decide) _
  · exact ((h.blw.alloc h.blw.size X).grown hg (by have := h.blw.size; simp; omega) (fun j hj => (hpa.lt j hj).1)).setCell h.bb _
theorem NewAt.root_step (h : NewAt w0 w P a c r b gC gN Ap kp pts) (hx : P[c]? = some (-1)) (r' : Nat) : NewAt w0 (w.setCell ⟨b, 2, none⟩ (.int .i64 r')) P a (c + 1) r' b gC gN Ap kp pts := by
  have hbc : b ≠ gC := Blk.ne_ h.box h.ch (by decide)
  have hbn : b ≠ gN := Blk.ne_ h.box h.nodes (by decide)
  refine ⟨h.box.to 2 _ rfl, h.ch.far (fun e => hbc e.symm) _, h.chl, h.nodes.far (fun e => hbn e.symm) _, set_other3 h.par h.box (by decide) _, fun v pt hv => ⟨set_other3 (h.chk v pt hv).1 h.box (by decide) _, ?_⟩, h.dis, h.dis2, h.blw.setCell h.bb _, h.bb, h.bC, h.bN⟩
  rw [kidsK_no (by rw [hx]; simp)]; exact (h.chk v pt hv).2
theorem NewAt.kid_step (h : NewAt w0 w P a c r b gC gN Ap kp pts) {x : Nat} {pt : Pt} (hpt : pts[x]? = some pt) (hx : P[c]? = some (x : Int)) {X : Obj} {Av : Option Addr} {kv : Nat} (ho : w4.ownsRow w0.heap.size 3 1 (.slice Av (pt.L.length + 1) kv) (pt.L.length + 1) (pt.L.flatMap icell ++ [.int .i64 c]))
    (hg : (w.alloc X).grownBy w4 (Value.slice pt.A pt.L.length pt.cap).ownBlock) (hat : (Value.slice Av (pt.L.length + 1) kv).ownBlock = (Value.slice pt.A pt.L.length pt.cap).ownBlock ∨ (Value.slice Av (pt.L.length + 1) kv).ownBlock = some (w.alloc X).heap.size) :
    NewAt w0 (w4.setCell ⟨gC, x, none⟩ (.slice Av (pt.L.length + 1) kv)) P a (c + 1) r b gC gN Ap kp (pts.set x ⟨Av, kv, pt.L ++ [(c : Int)]⟩) := by
  obtain ⟨hop, hK⟩ := h.chk x pt hpt
  have hxl : x < pts.length := (List.getElem?_eq_some_iff.1 hpt).1
  have hpa := hop.alloc X
  have hbx : Blk w4 b 82 _ := (h.box.alloc X).grown hg (fun e => own_blk_ne hpa (h.box.alloc X) (by decide) e.symm)
  have hch : RowBlk w4 gC 22 pcell pts := (h.ch.alloc X).grown hg (fun e => own_blk_ne hpa (h.ch.alloc X) (by decide) e.symm)
  have hnd := (h.nodes.alloc X).grown hg (fun e => own_blk_ne hpa (h.nodes.alloc X) (by decide) e.symm)
  have hbc : b ≠ gC := Blk.ne_ h.box h.ch (by decide)
  have hcn : gC ≠ gN := Blk.ne_ h.ch h.nodes (by decide)
  have hln : (pt.L ++ [(c : Int)]).length = pt.L.length + 1 := by simp
  have hat2 := hat
  rw [ob_eq, ob_eq] at hat2
  have hold : ∀ g, ob Av = some g → (∀ q, (q = ob Ap ∨ ∃ u p, u ≠ x ∧ pts[u]? = some p ∧ q = ob p.A) → q ≠ some g) := fun g hgv q hq e => by
    rcases hat2 with z | z
    · rcases hq with e2 | ⟨u, p, hu, hp, e2⟩
      · exact h.dis x pt g hpt (by rw [← z]; exact hgv) (by rw [← e2]; exact e)
      · exact hu (h.dis2 u x p pt g hp hpt (by rw [← e2]; exact e) (by rw [← z]; exact hgv))
    · rw [z] at hgv
      injection hgv with hgv
      rcases hq with e2 | ⟨u, p, hu, hp, e2⟩
      · have := ((h.par.alloc X).lt g (by rw [ob_eq, ← e2]; exact e)).2
        omega
      · have := (((h.chk u p hp).1.alloc X).lt g (by rw [ob_eq, ← e2]; exact e)).2
        omega
  have hat3 : ∀ u p, (pts.set x ⟨Av, kv, pt.L ++ [(c : Int)]⟩)[u]? = some p → (u = x ∧ p = ⟨Av, kv, pt.L ++ [(c : Int)]⟩) ∨ (u ≠ x ∧ pts[u]? = some p) := fun u p hu => by
    rw [List.getElem?_set] at hu
    by_cases e : x = u
    · rw [if_pos e, if_pos hxl] at hu
      injection hu with hu
      exact .inl ⟨e.symm, hu.symm⟩
    · rw [if_neg e] at hu; exact .inr ⟨fun h => e h.symm, hu⟩
  refine ⟨hbx.far hbc _, hch.set1 pcell_len hxl (by simp [pcell]), by rw [List.length_set, h.chl], hnd.far (fun e => hcn e.symm) _, ?_, fun v p hv => ?_, fun v p g hv hg' => ?_, fun u v p q g hu hv hp hq => ?_, ?_, h.bb, h.bC, h.bN⟩
  · exact set_other3 (own_grown (h.par.alloc X) hg (fun g hp e => by rw [ob_eq] at hp e; exact h.dis x pt g hpt e hp)) hch (by decide) _
  · rcases hat3 v p hv with ⟨rfl, rfl⟩ | ⟨hv2, hp⟩
    · refine ⟨?_, ?_⟩
      · simp only [hln]
        have := set_other3 (o := v) ho hch (by decide) (.slice Av (pt.L.length + 1) kv)
        rw [List.flatMap_append]
        simpa [icell] using this
      · rw [kidsK_yes hx, List.map_append, hK]; rfl
    · refine ⟨set_other3 (own_grown ((h.chk v p hp).1.alloc X) hg (fun g hp' e => by rw [ob_eq] at hp' e; exact hv2 (h.dis2 v x p pt g hp hpt hp' e))) hch (by decide) _, ?_⟩
      rw [kidsK_no (by rw [hx]; intro e; injection e with e; exact hv2 (by omega))]; exact (h.chk v p hp).2
  · rcases hat3 v p hv with ⟨rfl, rfl⟩ | ⟨hv2, hp⟩
    · exact hold g hg' _ (.inl rfl)
    · exact h.dis v p g hp hg'
  · rcases hat3 u p hu with ⟨rfl, rfl⟩ | ⟨hu2, hp2⟩
    · rcases hat3 v q hv with ⟨rfl, rfl⟩ | ⟨hv2, hq2⟩
      · rfl
      · exact (hold g hp _ (.inr ⟨v, q, hv2, hq2, rfl⟩) hq).elim
    · rcases hat3 v q hv with ⟨rfl, rfl⟩ | ⟨hv2, hq2⟩
      · exact (hold g hq _ (.inr ⟨u, p, hu2, hp2, rfl⟩) hp).elim
      · exact h.dis2 u v p q g hp2 hq2 hp hq
  · exact ((h.blw.alloc h.blw.size X).grown hg (by have := h.blw.size; simp; omega) (fun j hj => (hpa.lt j hj).1)).setCell h.bC _
theorem NewAt.drew (h : NewAt w0 w P a c r b gC gN Ap kp pts) : NewAt w0 w.drew P a c r b gC gN Ap kp pts := ⟨h.box, h.ch, h.chl, h.nodes, h.par, h.chk, h.dis, h.dis2, bdrew h.blw, h.bb, h.bC, h.bN⟩
theorem rep_at {n v : Nat} {pt : Pt} (h : (List.replicate n (⟨none, 0, []⟩ : Pt))[v]? = some pt) : pt = ⟨none, 0, []⟩ := by
  rw [List.getElem?_replicate] at h
  split at h
  · injection h with h; exact h.symm
  · cases h
theorem new_start1 {w1 : World} {n : Nat} (hd : Below w0.heap.size w0 w1) (hn : n = P.length) :
    NewAt w0 (((w1.alloc (.cells ((List.replicate n (⟨none, 0, []⟩ : Pt)).flatMap pcell).toArray 22)).alloc (.cells ((List.replicate n (⟨⟨0, 0, [], false⟩, none⟩ : Nm)).flatMap smcell).toArray 89)).alloc (.cells #[.slice none 0 0, .slice (some ⟨w1.heap.size, 0, none⟩) n n, .int .i64 0, .slice (some ⟨w1.heap.size + 1, 0, none⟩) n n] 82)).drew P 0 0 0 (w1.heap.size + 1 + 1) w1.heap.size (w1.heap.size + 1) none 0 (List.replicate n ⟨none, 0, []⟩) := by
  subst hn
  have hz := hd.size
  refine ⟨?_, ((Blk.new w1 22 _).alloc _).alloc _, by simp, ?_, World.ownsRow_nil _ _ _ _, fun v pt hv => ?_, fun v pt g hv hg => ?_, fun u v p q g hu hv hp hq => ?_, ?_, by omega, by omega, by omega⟩
  · have := Blk.new ((w1.alloc (.cells ((List.replicate P.length (⟨none, 0, []⟩ : Pt)).flatMap pcell).toArray 22)).alloc (.cells ((List.replicate P.length (⟨⟨0, 0, [], false⟩, none⟩ : Nm)).flatMap smcell).toArray 89)) 82 #[.slice none 0 0, .slice (some ⟨w1.heap.size, 0, none⟩) P.length P.length, .int .i64 0, .slice (some ⟨w1.heap.size + 1, 0, none⟩) P.length P.length]
    refine Blk.drew ?_
    simpa using this
  · have := (Blk.new (w1.alloc (.cells ((List.replicate P.length (⟨none, 0, []⟩ : Pt)).flatMap pcell).toArray 22)) 89 ((List.replicate P.length (⟨⟨0, 0, [], false⟩, none⟩ : Nm)).flatMap smcell).toArray).alloc (.cells #[.slice none 0 0, .slice (some ⟨w1.heap.size, 0, none⟩) P.length P.length, .int .i64 0, .slice (some ⟨w1.heap.size + 1, 0, none⟩) P.length P.length] 82)
    rw [World.size_alloc] at this
    exact this
  · rw [rep_at hv]; exact ⟨World.ownsRow_nil _ _ _ _, rfl⟩
  · rw [rep_at hv] at hg; simp [ob, Value.ownBlock] at hg
  · rw [rep_at hu] at hp; simp [ob, Value.ownBlock] at hp
  · exact bdrew (((hd.alloc hz _).alloc (by simp; omega) _).alloc (by simp; omega) _)
theorem new_start2 {w1 : World} {n : Nat} (hd : Below w0.heap.size w0 w1) (hn : n = P.length) :
    NewAt w0 (((w1.alloc (.cells ((List.replicate n (⟨⟨0, 0, [], false⟩, none⟩ : Nm)).flatMap smcell).toArray 89)).alloc (.cells ((List.replicate n (⟨none, 0, []⟩ : Pt)).flatMap pcell).toArray 22)).alloc (.cells #[.slice none 0 0, .slice (some ⟨w1.heap.size + 1, 0, none⟩) n n, .int .i64 0, .slice (some ⟨w1.heap.size, 0, none⟩) n n] 82)).drew P 0 0 0 (w1.heap.size + 1 + 1) (w1.heap.size + 1) w1.heap.size none 0 (List.replicate n ⟨none, 0, []⟩) := by
  subst hn
  have hz := hd.size
  refine ⟨?_, ?_, by simp, ((Blk.new w1 89 _).alloc _).alloc _, World.ownsRow_nil _ _ _ _, fun v pt hv => ?_, fun v pt g hv hg => ?_, fun u v p q g hu hv hp hq => ?_, ?_, by omega, by omega, by omega⟩
  · have := Blk.new ((w1.alloc (.cells ((List.replicate P.length (⟨⟨0, 0, [], false⟩, none⟩ : Nm)).flatMap smcell).toArray 89)).alloc (.cells ((List.replicate P.length (⟨none, 0, []⟩ : Pt)).flatMap pcell).toArray 22)) 82 #[.slice none 0 0, .slice (some ⟨w1.heap.size + 1, 0, none⟩) P.length P.length, .int .i64 0, .slice (some ⟨w1.heap.size, 0, none⟩) P.length P.length]
    refine Blk.drew ?_
    simpa using this
  · have := (Blk.new (w1.alloc (.cells ((List.replicate P.length (⟨⟨0, 0, [], false⟩, none⟩ : Nm)).flatMap smcell).toArray 89)) 22 ((List.replicate P.length (⟨none, 0, []⟩ : Pt)).flatMap pcell).toArray).alloc (.cells #[.slice none 0 0, .slice (some ⟨w1.heap.size + 1, 0, none⟩) P.length P.length, .int .i64 0, .slice (some ⟨w1.heap.size, 0, none⟩) P.length P.length] 82)
    rw [World.size_alloc] at this
    exact this
  · rw [rep_at hv]; exact ⟨World.ownsRow_nil _ _ _ _, rfl⟩
  · rw [rep_at hv] at hg; simp [ob, Value.ownBlock] at hg
  · rw [rep_at hu] at hp; simp [ob, Value.ownBlock] at hp
  · exact bdrew (((hd.alloc hz _).alloc (by simp; omega) _).alloc (by simp; omega) _)
theorem NewAt.done (h : NewAt w0 w P P.length P.length r b gC gN Ap kp pts) (hr : r < P.length) (hn : P.length ≤ 1000000) : ChAt w ⟨P, r, b, Ap, kp, gC, pts, gN⟩ (List.replicate P.length ⟨⟨0, 0, [], false⟩, none⟩) := by
  have hm : ∀ m : Nm, m ∈ List.replicate P.length (⟨⟨0, 0, [], false⟩, none⟩ : Nm) → m = ⟨⟨0, 0, [], false⟩, none⟩ := fun m h => (List.mem_replicate.1 h).2
  refine ⟨⟨h.box, ?_, h.ch, h.chl, fun v pt hv => ⟨own_base (h.chk v pt hv).1 (by omega), (h.chk v pt hv).2⟩, hr, hn⟩, h.nodes, by simp, fun m hmm => ?_, fun m hmm g hg => ?_, fun u v a c g hu hv ha hc => ?_⟩
  · have := own_base h.par (Nat.zero_le _)
    rwa [List.take_of_length_le (Nat.le_refl _)] at this
  · rw [hm m hmm]; intro hp; rcases hp with e | e <;> simp at e
  · rw [hm m hmm] at hg; cases hg
  · rw [hm a (List.mem_of_getElem? hu)] at ha; cases ha
end
theorem infoS : (Try.prog.info? 22).map (fun i => (i.zero, i.size, i.bytes)) = some (some (.slice none 0 0), 1, 24) := by kernel_rfl
theorem infoN : (Try.prog.info? 89).map (fun i => (i.zero, i.size, i.bytes)) = some (some (.agg #[.int .i64 0, .int .i64 0, .map none, .bool false]), 4, 32) := by kernel_rfl
def inrB (P : List Int) (n : Nat) : Bool := P.all fun x => decide (-1 ≤ x) && decide (x < n)
theorem inr_no {P : List Int} {n k : Nat} {x : Int} (h : P[k]? = some x) (hx : x < -1 ∨ (n : Int) ≤ x) : inrB P n = false := by
  unfold inrB; rw [List.all_eq_false]
  exact ⟨x, List.mem_of_getElem? h, by simp; omega⟩
theorem inr_yes {P : List Int} {n : Nat} (h : ∀ x, x ∈ P → -1 ≤ x ∧ x < n) : inrB P n = true := by
  unfold inrB; rw [List.all_eq_true]
  exact fun x hx => by simp [h x hx]
/-- What New answers. -/
def newE (N : List Nd) (C : List Cb) (P : List Int) : Int :=
  if validE N C ≠ 0 then 1 else if P.length ≠ N.length then 2 else if inrB P N.length = false then 2 else if leadsB P = false then 12 else 0
def NewR (N : List Nd) (C : List Cb) (P : List Int) (w : World) (e : Ending) (w' : World) : Prop :=
  Below w.heap.size w w' ∧ ((newE N C P ≠ 0 ∧ e = .returned (.tuple #[.pointer none, .int .i64 (newE N C P)])) ∨
    (newE N C P = 0 ∧ ∃ L : Lay, L.P = P ∧ L.root = rootK P P.length ∧ w.heap.size ≤ L.b ∧ w.heap.size ≤ L.gN ∧ e = .returned (.tuple #[.pointer (some ⟨L.b, 0, none⟩), .int .i64 0]) ∧ ChAt w' L (List.replicate P.length ⟨⟨0, 0, [], false⟩, none⟩)))
theorem leads_pos {P : List Int} (h : leadsB P = true) : 0 < P.length := by
  rcases Nat.eq_zero_or_pos P.length with e | e
  · have : P = [] := List.length_eq_zero_iff.1 e
    subst this
    simp [leadsB, cntR] at h
  · exact e
set_option maxRecDepth 100000 in
set_option maxHeartbeats 16000000 in
theorem New_ (N : List Nd) (C : List Cb) (An Ac A : Option Addr) (kn kc cap : Nat) (P : List Int) (w : World) (hp : PlanAt w w.heap.size ⟨N, C, An, kn, Ac, kc⟩) (hr : RowsAt w w.heap.size 1 icell A P) (hl : P.length ≤ 1000000) :
    Calls Try.prog 12 #[.agg #[.slice An N.length kn, .slice Ac C.length kc], .slice A P.length cap] w (NewR N C P w) := by
  have HP := Kept.mk hp
  have HR := Kept.mk hr
  have hlN := hp.len.1
  have hlC := hp.len.2
  simp only at hlN hlC
  have HB := Kept.mk (Blk.new w 27 #[.slice An N.length kn, .slice Ac C.length kc])
  have HG : Kept (Below w.heap.size w (w.alloc (.cells #[.slice An N.length kn, .slice Ac C.length kc] 27))) := ⟨(Below.refl _ _).alloc (Nat.le_refl _) _⟩
  clear hp hr
  obtain ⟨vE, hvE⟩ : ∃ v : Int, validE N C = v := ⟨_, rfl⟩
  have HV := Kept.mk hvE
  by_cases hv0 : vE = 0
  · obtain ⟨q1, q2⟩ := z_yes' hv0
    by_cases hn : P.length = N.length
    · obtain ⟨q3, q4⟩ := z_yes' (show (P.length : Int) = (N.length : Int) by omega)
      have HV0 : Kept (validE N C = 0) := ⟨by rw [hvE, hv0]⟩
      have HNL := Kept.mk hn
      have hn16 : P.length ≤ N.length ∧ N.length ≤ P.length := by omega
      clear hvE hv0 hn
      go_enter Try.func12, Try.ntmps12
      go_wp2_with (go_at_call 13; refine (valid_ N C An Ac kn kc _ (HP.out.new_ HG.out)).mono ?_; rintro e w1 ⟨rfl, hb1⟩; rw [HV.out]; have HB1 := Kept.mk (HB.out.new_ hb1); have HD1 := Kept.mk (join HG.out hb1); clear hb1; have k0 := HB1.out.cell 0 (v := .slice An N.length kn) rfl; have k1 := HB1.out.cell 1 (v := .slice Ac C.length kc) rfl; have z1 := HB1.out.lt)
      go_loop [24] (fun v24 => ∃ k : Nat, k ≤ P.length ∧ v24 = .int .i64 k ∧ Kept (∀ x, x ∈ P.take k → -1 ≤ x ∧ x < (N.length : Int))) (fun v24 => P.length - (intOf v24).toNat)
      case atStart => exact ⟨0, Nat.zero_le _, rfl, ⟨fun x hx => by simp at hx⟩⟩
      case round =>
        obtain ⟨k, hk, rfl, HI⟩ := hrel
        by_cases hlt : k < P.length
        · obtain ⟨x, b, off, hx, hA, hb, c0⟩ := p_at (HR.out.new_ HD1.out) hlt
          have HX := Kept.mk hx
          rw [hA]
          clear hx hA
          by_cases h1 : x < -1 ∨ (N.length : Int) ≤ x
          · have HE : Kept (newE N C P = 2) := ⟨by unfold newE; rw [if_neg (by rw [HV0.out]; simp), if_neg (by rw [HNL.out]; simp), if_pos (inr_no HX.out h1)]⟩
            by_cases h2 : x < -1
            · clear h1
              go_wp2_with fail
              go_ret2
              exact ⟨HD1.out, .inl ⟨by rw [HE.out]; decide, by rw [HE.out]; rfl⟩⟩
            · have h3 := h1.resolve_left h2
              clear h1
              go_wp2_with fail
              go_ret2
              exact ⟨HD1.out, .inl ⟨by rw [HE.out]; decide, by rw [HE.out]; rfl⟩⟩
          · have HI2 : Kept (∀ y, y ∈ P.take (k + 1) → -1 ≤ y ∧ y < (N.length : Int)) := ⟨fun y hy => by
              rw [take_next HX.out, List.mem_append, List.mem_singleton] at hy
              rcases hy with hy | rfl
              · exact HI.out y hy
              · omega⟩
            have h3 : ¬ x < -1 := by omega
            have h4 : ¬ (N.length : Int) ≤ x := by omega
            clear h1
            go_wp2_with fail
            all_goals
              go_round
              case rel => exact ⟨k + 1, by omega, by go_num, HI2⟩
              case measure => simp [intOf]; omega
        · obtain rfl : k = P.length := by omega
          have HIN : Kept (InR P) := ⟨fun x hx => by
            have := HI.out x (by rw [List.take_of_length_le (Nat.le_refl _)]; exact hx)
            omega⟩
          have HIB : Kept (inrB P N.length = true) := ⟨inr_yes fun x hx => HI.out x (by rw [List.take_of_length_le (Nat.le_refl _)]; exact hx)⟩
          have HLD := Kept.mk (leads_c P A w1.heap.size cap w1 (HR.out.new_ HD1.out) HIN.out hl)
          have HRW := Kept.mk (HR.out.new_ HD1.out)
          clear hlt HI
          cases hle : leadsB P with
          | false =>
            have HE : Kept (newE N C P = 12) := ⟨by unfold newE; rw [if_neg (by rw [HV0.out]; simp), if_neg (by rw [HNL.out]; simp), if_neg (by rw [HIB.out]; simp), if_pos hle]⟩
            have HLE := Kept.mk hle
            clear hle
            go_wp2_with (go_at_call 36; refine HLD.out.mono ?_; rintro e w2 ⟨rfl, rfl⟩; rw [HLE.out])
            go_ret2
            exact ⟨HD1.out, .inl ⟨by rw [HE.out]; decide, by rw [HE.out]; rfl⟩⟩
          | true =>
            have HE : Kept (newE N C P = 0) := ⟨by unfold newE; rw [if_neg (by rw [HV0.out]; simp), if_neg (by rw [HNL.out]; simp), if_neg (by rw [HIB.out]; simp), if_neg (by rw [hle]; simp)]⟩
            have HLE := Kept.mk hle
            have hpos := leads_pos hle
            clear hle
            have hm1 := fun w => run_make_flat (P := Try.prog) pcell_len (by omega) (⟨none, 0, []⟩ : Pt) 79 22 _ 24 Try.underlying79 infoS rfl N.length (by omega) (by omega) w
            have hm2 := fun w => run_make_flat (P := Try.prog) smcell_len (by omega) (⟨⟨0, 0, [], false⟩, none⟩ : Nm) 80 89 _ 32 Try.underlying80 infoN rfl N.length (by omega) (by omega) w
            go_wp2_with (go_at_call 36; refine HLD.out.mono ?_; rintro e w2 ⟨rfl, rfl⟩; rw [HLE.out])
            go_upto_region 14 with fail
            go_cut [9] (fun s9 wx => ∃ b gC gN : Nat, s9 = .pointer (some ⟨b, 0, none⟩) ∧ Kept (NewAt w wx P 0 0 0 b gC gN none 0 (List.replicate N.length ⟨none, 0, []⟩)))
            case first =>
              go_region
              all_goals
                go_wp2_with fail
                go_meet
                first | exact ⟨_, _, _, rfl, ⟨new_start1 HD1.out HNL.out.symm⟩⟩ | exact ⟨_, _, _, rfl, ⟨new_start2 HD1.out HNL.out.symm⟩⟩
            case rest =>
              obtain ⟨b, gC, gN, rfl, HNA0⟩ := hcut
              obtain ⟨jj, hjj, hy0, hy1, hy2⟩ := info_parts infoI
              have HP0 := Kept.mk hpos
              clear hm1 hm2 k0 k1 z1
              go_wp2_with fail
              go_loopw [47] (fun v47 wr => ∃ (k : Nat) (Ap : Option Addr) (kp : Nat) (pts : List Pt), k ≤ P.length ∧ v47 = .int .i64 k ∧ Kept (NewAt w wr P k k (rootK P k) b gC gN Ap kp pts)) (fun v47 _ => P.length - (intOf v47).toNat)
              case atStart => exact ⟨0, none, 0, _, Nat.zero_le _, rfl, HNA0⟩
              case round =>
                clear HNA0
                obtain ⟨k, Ap, kp, pts, hk, rfl, HNA⟩ := hrel
                have hz := HNA.out.blw.size
                by_cases hlt : k < P.length
                · obtain ⟨x, bb, off, hx, hA, hb, c0⟩ := p_at (HR.out.new_ HNA.out.blw) hlt
                  have HX := Kept.mk hx
                  have hin := HIN.out x (List.mem_of_getElem? hx)
                  have k0 := HNA.out.box.cell 0 (v := .slice Ap k kp) rfl
                  have zb := HNA.out.box.lt
                  have HM6 := Kept.mk (reads_made wr #[.int .i64 x] 3 1 1 rfl)
                  have HO6 := Kept.mk (HNA.out.par.alloc (.cells #[.int .i64 x] 3))
                  have HB6 := Kept.mk (HNA.out.box.alloc (.cells #[.int .i64 x] 3))
                  have h1 : ∀ u ∈ (#[Value.int .i64 x]).toList, u.oneCell' = true := (by intro u hu; simp at hu; subst hu; rfl)
                  rw [hA]
                  clear hx hA
                  by_cases h0 : x < 0
                  · have hx1 : x = -1 := by omega
                    have HRT := Kept.mk (rootK_yes HX.out h0)
                    have HX1 : Kept (P[k]? = some (-1)) := ⟨by rw [HX.out, hx1]⟩
                    clear hx1
                    go_wp2_with (at_builtin; refine wpList_append_any _ rfl _ _ _ rfl w.heap.size 3 jj _ 1 8 Try.underlying22 hjj hy0 hy1 hy2 rfl (by omega) _ k _ rfl HO6.out _ _ 1 1 _ rfl HM6.out h1 (by unfold maxLen; omega) (by omega) (by simp; omega) ?_; intro v' w4 ho hgw hat; obtain ⟨Av, kv, rfl⟩ := own_slice ho; have HN8 := Kept.mk (NewAt.par_step HNA.out HX.out _ ho hgw hat); have hb8 := HB6.out.grown hgw (fun e => own_blk_ne HO6.out HB6.out (by decide) e.symm); have k80 := hb8.cell 0 (v := .slice Ap k kp) rfl; have k82 := hb8.cell 2 (v := .int .i64 (rootK P k)) rfl; have f80 := hb8.free 0; have f82 := hb8.free 2; have z80 := hb8.lt; clear ho hgw hat hb8)
                    go_roundw
                    case rel => exact ⟨k + 1, Av, kv, pts, by omega, by go_num, ⟨by rw [HRT.out]; exact HN8.out.root_step HX1.out k⟩⟩
                    case measure => simp [intOf]; omega
                  · obtain ⟨x, rfl⟩ : ∃ y : Nat, x = y := ⟨x.toNat, by omega⟩
                    have hxl : x < P.length := by omega
                    have HRT := Kept.mk (rootK_no HX.out h0)
                    obtain ⟨pt, hpt⟩ := get_some (l := pts) (k := x) (by rw [HNA.out.chl]; exact hxl)
                    have HPT := Kept.mk hpt
                    clear hpt
                    go_wp2_with (at_builtin; refine wpList_append_any _ rfl _ _ _ rfl w.heap.size 3 jj _ 1 8 Try.underlying22 hjj hy0 hy1 hy2 rfl (by omega) _ k _ rfl HO6.out _ _ 1 1 _ rfl HM6.out h1 (by unfold maxLen; omega) (by omega) (by simp; omega) ?_; intro v' w4 ho hgw hat; obtain ⟨Av, kv, rfl⟩ := own_slice ho; have HN8 := Kept.mk (NewAt.par_step HNA.out HX.out _ ho hgw hat); have hb8 := HB6.out.grown hgw (fun e => own_blk_ne HO6.out HB6.out (by decide) e.symm); have k80 := hb8.cell 0 (v := .slice Ap k kp) rfl; have k82 := hb8.cell 2 (v := .int .i64 (rootK P k)) rfl; have f80 := hb8.free 0; have f82 := hb8.free 2; have z80 := hb8.lt; clear ho hgw hat hb8)
                    generalize (w4.setCell ⟨b, 0, none⟩ (.slice Av (k + 1) kv)) = wz at *
                    clear k80 k82 f80 f82 z80
                    replace HN8 := Kept.mk HN8.out.drew
                    have k1 : wz.cell? ⟨b, 1, none⟩ = some (.slice (some ⟨gC, 0, none⟩) P.length P.length) := HN8.out.box.cell 1 rfl
                    have k2 : wz.cell? ⟨gC, x, none⟩ = some (.slice pt.A pt.L.length pt.cap) := (by have := HN8.out.ch.cell pcell_len HPT.out (j := 0) rfl; simpa using this)
                    have f1 := HN8.out.ch.free x
                    have zC : gC < wz.heap.size := HN8.out.ch.lt
                    have zb2 : b < wz.heap.size := HN8.out.box.lt
                    have hz2 := HN8.out.blw.size
                    have hpl : pt.L.length ≤ k := by rw [(HN8.out.chk x pt HPT.out).2, List.length_map]; exact kidsK_len _ _ _
                    have HOK := Kept.mk ((HN8.out.chk x pt HPT.out).1.alloc (.cells #[.int .i64 k] 3))
                    have HMS := Kept.mk (reads_made wz.drew #[.int .i64 k] 3 1 1 rfl)
                    have HDS : Kept (w.heap.size ≤ (wz.drew.alloc (.cells #[.int .i64 k] 3)).heap.size) := ⟨by simp; have := HN8.out.blw.size; simp at this; omega⟩
                    have HXK := HX
                    have g1 : ∀ u ∈ (#[Value.int .i64 (k : Int)]).toList, u.oneCell' = true := (by intro u hu; simp at hu; subst hu; rfl)
                    clear h1
                    refine wp_region_K (S := (fun w' => w'.cell? ⟨b, 1, none⟩ = some (.slice (some ⟨gC, 0, none⟩) P.length P.length) ∧ w'.cell? ⟨gC, x, none⟩ = some (.slice pt.A pt.L.length pt.cap))) (k := 16) (by kernel_rfl) (by (try dsimp only); (first | (go_keep; done) | (go_simp; done) | exact ⟨kk1, kk2⟩ | (exact ⟨k1, k2⟩))) (fun hHeld => ?_)
                    refine wpAnyK_take (i := 0) (v := ?_) rfl (by kernel_rfl) (by kernel_rfl) (by kernel_rfl) (by kernel_rfl) (fun _ _ _ h => h) (Or.inl ⟨by rfl, ?_⟩) (by assumption) ?_; rotate_left; (intro w hSw; (try dsimp only at hSw); go_simp; try (with_reducible rfl)); try simp only [Act.put, List.setIfInBounds_toArray, List.set_cons_zero, List.set_cons_succ, List.getElem_toArray, List.getElem_cons_succ, List.getElem_cons_zero]
                    refine wpAnyK_take (i := 1) (v := ?_) rfl (by kernel_rfl) (by kernel_rfl) (by kernel_rfl) (by kernel_rfl) (fun _ _ _ h => h) (Or.inl ⟨by rfl, ?_⟩) (by assumption) ?_; rotate_left; (intro w hSw; (try dsimp only at hSw); go_simp; try (with_reducible rfl)); try simp only [Act.put, List.setIfInBounds_toArray, List.set_cons_zero, List.set_cons_succ, List.getElem_toArray, List.getElem_cons_succ, List.getElem_cons_zero]
                    refine wpAnyK_take (i := 2) (v := ?_) rfl (by kernel_rfl) (by kernel_rfl) (by kernel_rfl) (by kernel_rfl) (fun _ _ _ h => h) (Or.inl ⟨by rfl, ?_⟩) (by assumption) ?_; rotate_left; (intro w hSw; (try dsimp only at hSw); go_simp; try (with_reducible rfl)); try simp only [Act.put, List.setIfInBounds_toArray, List.set_cons_zero, List.set_cons_succ, List.getElem_toArray, List.getElem_cons_succ, List.getElem_cons_zero]
                    refine wpAnyK_take (i := 3) (v := ?_) rfl (by kernel_rfl) (by kernel_rfl) (by kernel_rfl) (by kernel_rfl) (fun _ _ _ h => h) (Or.inl ⟨by rfl, ?_⟩) (by assumption) ?_; rotate_left; (intro w hSw; (try dsimp only at hSw); go_simp; try (with_reducible rfl)); try simp only [Act.put, List.setIfInBounds_toArray, List.set_cons_zero, List.set_cons_succ, List.getElem_toArray, List.getElem_cons_succ, List.getElem_cons_zero]
                    refine wpAnyK_take (i := 4) (v := ?_) rfl (by kernel_rfl) (by kernel_rfl) (by kernel_rfl) (by kernel_rfl) (fun _ _ _ h => h) (Or.inl ⟨by rfl, ?_⟩) (by assumption) ?_; rotate_left; (intro w hSw; (try dsimp only at hSw); go_simp; try (with_reducible rfl)); try simp only [Act.put, List.setIfInBounds_toArray, List.set_cons_zero, List.set_cons_succ, List.getElem_toArray, List.getElem_cons_succ, List.getElem_cons_zero]
                    refine wpAnyK_take (i := 5) (v := ?_) rfl (by kernel_rfl) (by kernel_rfl) (by kernel_rfl) (by kernel_rfl) (fun _ _ _ h => h) (Or.inl ⟨by rfl, ?_⟩) (by assumption) ?_; rotate_left; (intro w hSw; (try dsimp only at hSw); go_simp; try (with_reducible rfl)); try simp only [Act.put, List.setIfInBounds_toArray, List.set_cons_zero, List.set_cons_succ, List.getElem_toArray, List.getElem_cons_succ, List.getElem_cons_zero]
                    refine wpAnyK_take (i := 6) (v := ?_) rfl (by kernel_rfl) (by kernel_rfl) (by kernel_rfl) (by kernel_rfl) (fun _ _ _ h => h) (Or.inl ⟨by rfl, ?_⟩) (by assumption) ?_; rotate_left; (intro w hSw; (try dsimp only at hSw); go_simp; try (with_reducible rfl)); try simp only [Act.put, List.setIfInBounds_toArray, List.set_cons_zero, List.set_cons_succ, List.getElem_toArray, List.getElem_cons_succ, List.getElem_cons_zero]
                    refine wpAnyK_take (i := 7) (v := ?_) rfl (by kernel_rfl) (by kernel_rfl) (by kernel_rfl) (by kernel_rfl) (fun _ _ _ h => h) (Or.inl ⟨by rfl, ?_⟩) (by assumption) ?_; rotate_left; (intro w hSw; (try dsimp only at hSw); go_simp; try (with_reducible rfl)); try simp only [Act.put, List.setIfInBounds_toArray, List.set_cons_zero, List.set_cons_succ, List.getElem_toArray, List.getElem_cons_succ, List.getElem_cons_zero]
                    refine wpAnyK_take (i := 8) (v := ?_) rfl (by kernel_rfl) (by kernel_rfl) (by kernel_rfl) (by kernel_rfl) (fun _ _ _ h => h) (Or.inl ⟨by rfl, ?_⟩) (by assumption) ?_; rotate_left; (intro w hSw; (try dsimp only at hSw); go_simp; try (with_reducible rfl)); try simp only [Act.put, List.setIfInBounds_toArray, List.set_cons_zero, List.set_cons_succ, List.getElem_toArray, List.getElem_cons_succ, List.getElem_cons_zero]
                    refine wpAnyK_take (i := 9) (v := ?_) rfl (by kernel_rfl) (by kernel_rfl) (by kernel_rfl) (by kernel_rfl) (fun _ _ _ h => h) (Or.inl ⟨by rfl, ?_⟩) (by assumption) ?_; rotate_left; (intro w hSw; (try dsimp only at hSw); go_simp; try (with_reducible rfl)); try simp only [Act.put, List.setIfInBounds_toArray, List.set_cons_zero, List.set_cons_succ, List.getElem_toArray, List.getElem_cons_succ, List.getElem_cons_zero]
                    refine wpAnyK_take (i := 10) (v := ?_) rfl (by kernel_rfl) (by kernel_rfl) (by kernel_rfl) (by kernel_rfl) (fun _ _ _ h => h) (Or.inl ⟨by rfl, ?_⟩) (by assumption) ?_; rotate_left; (intro w hSw; (try dsimp only at hSw); go_simp; try (with_reducible rfl)); try simp only [Act.put, List.setIfInBounds_toArray, List.set_cons_zero, List.set_cons_succ, List.getElem_toArray, List.getElem_cons_succ, List.getElem_cons_zero]
                    refine wpAnyK_take (i := 11) (v := ?_) rfl (by kernel_rfl) (by kernel_rfl) (by kernel_rfl) (by kernel_rfl) (fun _ _ _ h => h) (Or.inl ⟨by rfl, ?_⟩) (by assumption) ?_; rotate_left; (intro w hSw; (try dsimp only at hSw); go_simp; try (with_reducible rfl)); try simp only [Act.put, List.setIfInBounds_toArray, List.set_cons_zero, List.set_cons_succ, List.getElem_toArray, List.getElem_cons_succ, List.getElem_cons_zero]
                    refine wpAnyK_take (i := 12) (v := ?_) rfl (by kernel_rfl) (by kernel_rfl) (by kernel_rfl) (by kernel_rfl) (fun _ _ _ h => h) (Or.inl ⟨by rfl, ?_⟩) (by assumption) ?_; rotate_left; (intro w hSw; (try dsimp only at hSw); go_simp; try (with_reducible rfl)); try simp only [Act.put, List.setIfInBounds_toArray, List.set_cons_zero, List.set_cons_succ, List.getElem_toArray, List.getElem_cons_succ, List.getElem_cons_zero]
                    refine wpAnyK_one (i := 13) (by kernel_rfl) rfl (fun K hK => ?_); go_simp
                    refine hK.out _ _ (by (try dsimp only); (first | (go_keep; done) | (go_simp; done) | exact ⟨kk1, kk2⟩ | (exact ⟨k1, k2⟩))) (fun hHeld => ?_); clear hK K; try simp only [Act.put, List.setIfInBounds_toArray, List.set_cons_zero, List.set_cons_succ, List.getElem_toArray, List.getElem_cons_succ, List.getElem_cons_zero]
                    refine wpAnyK_one (i := 14) (by kernel_rfl) rfl (fun K hK => ?_)
                    refine step_append_any _ rfl (.tmp 79) (.tmp 81) 22 rfl w.heap.size 3 jj _ 1 8 Try.underlying22 hjj hy0 hy1 hy2 rfl (by omega) _ pt.L.length _ rfl HOK.out _ _ 1 1 _ rfl HMS.out g1 (by unfold maxLen; omega) (by omega) HDS.out ?_; intro v' w5 ho hgw hat; obtain ⟨Av, kv, rfl⟩ := own_slice ho; have HK9 := Kept.mk (NewAt.kid_step HN8.out HPT.out HXK.out ho hgw hat); have hb9 := (HN8.out.box.alloc _).grown hgw (fun e => own_blk_ne HOK.out (HN8.out.box.alloc _) (by decide) e.symm); have hc9 := (HN8.out.ch.alloc _).grown hgw (fun e => own_blk_ne HOK.out (HN8.out.ch.alloc _) (by decide) e.symm); have kk1 := hb9.cell 1 (v := .slice (some ⟨gC, 0, none⟩) P.length P.length) rfl; have kk2 : w5.cell? ⟨gC, x, none⟩ = some (.slice pt.A pt.L.length pt.cap) := (by have := hc9.cell pcell_len HPT.out (j := 0) rfl; simpa using this); have ff1 := hc9.free x; have zc9 := hc9.lt; clear ho hgw hat hb9 hc9
                    refine hK.out _ _ (by (try dsimp only); (first | (go_keep; done) | (go_simp; done) | exact ⟨kk1, kk2⟩ | (exact ⟨k1, k2⟩))) (fun hHeld => ?_); clear hK K; try simp only [Act.put, List.setIfInBounds_toArray, List.set_cons_zero, List.set_cons_succ, List.getElem_toArray, List.getElem_cons_succ, List.getElem_cons_zero]
                    refine wpAnyK_take (i := 15) (v := ?_) rfl (by kernel_rfl) (by kernel_rfl) (by kernel_rfl) (by kernel_rfl) (fun _ _ _ h => h) (Or.inl ⟨by rfl, ?_⟩) (by assumption) ?_; rotate_left; (intro w hSw; (try dsimp only at hSw); go_simp; try (with_reducible rfl)); try simp only [Act.put, List.setIfInBounds_toArray, List.set_cons_zero, List.set_cons_succ, List.getElem_toArray, List.getElem_cons_succ, List.getElem_cons_zero]
                    refine wpAnyK_last (by kernel_rfl) rfl (fun K hK => ?_); go_simp
                    refine hK.out _ _ ?_; clear hK K; try simp only [Act.put, List.setIfInBounds_toArray, List.set_cons_zero, List.set_cons_succ, List.getElem_toArray, List.getElem_cons_succ, List.getElem_cons_zero]
                    refine wpAnyK_done (by kernel_rfl) ?_ _
                    go_wp2_with fail
                    go_roundw
                    case rel => exact ⟨k + 1, _, _, _, by omega, by go_num, ⟨by rw [HRT.out]; exact HK9.out⟩⟩
                    case measure => simp [intOf]; omega
                · obtain rfl : k = P.length := by omega
                  clear hlt
                  go_wp2_with fail
                  go_ret2
                  exact ⟨HNA.out.blw, .inr ⟨HE.out, _, rfl, rfl, HNA.out.bb, HNA.out.bN, rfl, HNA.out.done (rootK_lt HP0.out (Nat.le_refl _)) hl⟩⟩
    · have HE : Kept (newE N C P = 2) := ⟨by unfold newE; rw [if_neg (by rw [hvE, hv0]; simp), if_pos hn]⟩
      obtain ⟨q3, q4⟩ := z_no' (show (P.length : Int) ≠ (N.length : Int) by omega)
      clear hvE hv0 hn
      go_enter Try.func12, Try.ntmps12
      go_wp2_with (go_at_call 13; refine (valid_ N C An Ac kn kc _ (HP.out.new_ HG.out)).mono ?_; rintro e w1 ⟨rfl, hb1⟩; rw [HV.out]; have HB1 := Kept.mk (HB.out.new_ hb1); have HD1 := Kept.mk (join HG.out hb1); clear hb1; have k0 := HB1.out.cell 0 (v := .slice An N.length kn) rfl; have k1 := HB1.out.cell 1 (v := .slice Ac C.length kc) rfl; have z1 := HB1.out.lt)
      go_ret2
      exact ⟨HD1.out, .inl ⟨by rw [HE.out]; decide, by rw [HE.out]; rfl⟩⟩
  · have HE : Kept (newE N C P = 1) := ⟨by unfold newE; rw [if_pos (by rw [hvE]; exact hv0)]⟩
    obtain ⟨q1, q2⟩ := z_no' hv0
    clear hvE hv0
    go_enter Try.func12, Try.ntmps12
    go_wp2_with (go_at_call 13; refine (valid_ N C An Ac kn kc _ (HP.out.new_ HG.out)).mono ?_; rintro e w1 ⟨rfl, hb1⟩; rw [HV.out]; have HB1 := Kept.mk (HB.out.new_ hb1); have HD1 := Kept.mk (join HG.out hb1); clear hb1; have k0 := HB1.out.cell 0 (v := .slice An N.length kn) rfl; have k1 := HB1.out.cell 1 (v := .slice Ac C.length kc) rfl; have z1 := HB1.out.lt)
    go_ret2
    exact ⟨HD1.out, .inl ⟨by rw [HE.out]; decide, by rw [HE.out]; rfl⟩⟩
end Go.Proofs.Ytibmbhnpmfgclaa
