/- Hello: the reference's table as a value with a row of ports; New and the small functions. -/
import Derived.Test.YtkbnacboianjkaaNew
import Derived.Test.YtkbnacboianjkaaPlainP
import Derived.Test.YtkbnacboianjkaaWords
namespace Go.Proofs.Ytkbnacboianjkaa
set_option linter.unusedVariables false
set_option linter.unusedSimpArgs false
open Go.RowKit
/-- A port of the reference: state, node, incarnation, its port, silence. -/
structure RP where
  s : Int
  n : Int
  i : Int
  t : Int
  q : Int
def rpc (p : RP) : List Value := [.int .i64 p.s, .int .i64 p.n, .int .i64 p.i, .int .i64 p.t, .int .i64 p.q]
def rrow (l : List RP) : List Value := l.flatMap rpc
theorem rrow_cons (p : RP) (l : List RP) : rrow (p :: l) = rpc p ++ rrow l := rfl
theorem rrow_app (l m : List RP) : rrow (l ++ m) = rrow l ++ rrow m := by simp [rrow]
theorem rrow_len (l : List RP) : (rrow l).length = l.length * 5 := by
  induction l with
  | nil => rfl
  | cons a l ih => rw [rrow_cons, List.length_append, ih, List.length_cons]; simp [rpc]; omega
theorem rrow_one (l : List RP) : ∀ u ∈ rrow l, u.oneCell' = true := by
  intro u hu
  simp only [rrow, List.mem_flatMap] at hu
  obtain ⟨p, -, hp⟩ := hu
  simp only [rpc, List.mem_cons, List.not_mem_nil, or_false] at hp
  rcases hp with rfl | rfl | rfl | rfl | rfl <;> rfl
theorem rrow_get {l : List RP} {i : Nat} {p : RP} (h : l[i]? = some p) {j : Nat} {v : Value} (hj : (rpc p)[j]? = some v) : (rrow l)[i * 5 + j]? = some v := by
  induction l generalizing i with
  | nil => simp at h
  | cons a l ih =>
    have hj5 : j < 5 := by have := (List.getElem?_eq_some_iff.1 hj).1; simpa [rpc] using this
    cases i with
    | zero =>
      simp at h; subst h
      rw [rrow_cons, List.getElem?_append_left (by simp [rpc]; omega)]
      simpa using hj
    | succ i =>
      simp at h
      rw [rrow_cons, List.getElem?_append_right (by simp [rpc]; omega)]
      have := ih h
      rw [← this]; congr 1; simp [rpc]; omega
theorem rrow_set {l : List RP} {i : Nat} {p p' : RP} (h : l[i]? = some p) {j : Nat} {v : Value} (hj5 : j < 5) (hj : (rpc p).set j v = rpc p') : (rrow l).set (i * 5 + j) v = rrow (l.set i p') := by
  induction l generalizing i with
  | nil => simp at h
  | cons a l ih =>
    cases i with
    | zero =>
      simp at h; subst h
      rw [rrow_cons, List.set_cons_zero, rrow_cons, List.set_append_left _ _ (by simp [rpc]; omega)]
      simp [← hj]
    | succ i =>
      simp at h
      rw [rrow_cons, List.set_cons_succ, rrow_cons, List.set_append_right _ _ (by simp [rpc]; omega)]
      rw [← ih h]; congr 2; simp [rpc]; omega
/-- What the reference knows about a port. -/
def rof (now : Int) (p : Pt) : RP := ⟨p.state, if p.last.inc = 0 then -1 else p.last.node, p.last.inc, p.last.port, now - p.since⟩
def rports (t : Tb) : List RP := t.ports.map (rof t.ticks)
theorem rports_len (t : Tb) : (rports t).length = t.ports.length := by simp [rports]
theorem rports_get {t : Tb} {i : Nat} {p : Pt} (h : t.ports[i]? = some p) : (rports t)[i]? = some (rof t.ticks p) := by simp [rports, h]
def rcs (t : Tb) (A : Option Addr) (k : Nat) : Array Value := #[.int .i64 t.node, .int .i64 t.inc, .int .i64 t.every, .int .i64 t.dead, .slice A t.ports.length k, .int .i64 t.ticks, .int .i64 t.version]
def rval (t : Tb) (A : Option Addr) (k : Nat) : Value := .agg (rcs t A k)
/-- The reference's ports lie there. -/
structure RT (w : World) (t : Tb) (A : Option Addr) (k : Nat) : Prop where
  rd : Reads w w.heap.size 5 A t.ports.length (rrow (rports t))
  le : t.ports.length ≤ k
  max : k ≤ maxLen
  pos : 0 < t.ports.length
  few : t.ports.length ≤ 8
  ty : ∃ b off cs fz, A = some ⟨b, off, none⟩ ∧ w.heap[b]? = some (.cells cs 54 fz)
theorem lt_of_at {w : World} {b : Nat} {o : Obj} (h : w.heap[b]? = some o) : b < w.heap.size := by
  rcases Nat.lt_or_ge b w.heap.size with hlt | hge
  · exact hlt
  · rw [Array.getElem?_eq_none hge] at h; cases h
theorem RT.new_ {w w' : World} {t : Tb} {A : Option Addr} {k : Nat} (h : RT w t A k) (hb : Below w.heap.size w w') : RT w' t A k := ⟨(h.rd.below hb).more hb.size, h.le, h.max, h.pos, h.few, by
  obtain ⟨b, off, cs, fz, e, hh⟩ := h.ty
  exact ⟨b, off, cs, fz, e, (hb.block b (lt_of_at hh)).trans hh⟩⟩
theorem RT.only {S : Nat → Prop} {w w' : World} {t : Tb} {A : Option Addr} {k : Nat} (h : RT w t A k) (hO : OnlyP S w w') (hS : ∀ g, S g → ∃ ty cs, Blk w g ty cs ∧ ty ≠ 54) : RT w' t A k := by
  obtain ⟨b, off, cs, fz, e, hh⟩ := h.ty
  have hnb : ¬ S b := fun hs => by
    obtain ⟨ty, c2, hb, hne⟩ := hS b hs
    unfold Blk at hb
    rw [hb] at hh
    injection hh with hh
    injection hh with _ h2
    exact hne h2
  have hbl := hO.block b (lt_of_at hh) hnb
  refine ⟨⟨h.rd.1, fun hn => ?_⟩, h.le, h.max, h.pos, h.few, b, off, cs, fz, e, hbl.trans hh⟩
  obtain ⟨ad, e2, hlt, hc⟩ := h.rd.2 hn
  rw [e] at e2
  injection e2 with e2
  subst e2
  refine ⟨_, e, Nat.lt_of_lt_of_le (lt_of_at hh) hO.size, fun j u hu => ?_⟩
  exact (World.cell?_of_block (by rw [block_of_add]; exact hbl)).trans (hc j u hu)
theorem own_slice {w : World} {B sz n : Nat} {e : TypeId} {v : Value} {xs : List Value} (h : w.ownsRow B e sz v n xs) : ∃ A k, v = .slice A n k := by
  rcases h.2 with ⟨rfl, h1⟩ | ⟨g, cap, cur, rfl, _⟩
  · subst h1; exact ⟨_, _, rfl⟩
  · exact ⟨_, _, rfl⟩
theorem own_cap {w : World} {B sz n k : Nat} {e : TypeId} {A : Option Addr} {xs : List Value} (h : w.ownsRow B e sz (.slice A n k) n xs) : n ≤ k ∧ k ≤ maxLen := by
  rcases h.2 with ⟨h1, h2⟩ | ⟨g, cap, cur, h1, _, _, h4, h5, _⟩
  · cases h1; exact ⟨by omega, by unfold maxLen; omega⟩
  · injection h1 with _ _ h10; subst h10; exact ⟨h4, h5⟩
theorem own_move {w w' : World} {B sz n : Nat} {e : TypeId} {v : Value} {xs : List Value} (h : w.ownsRow B e sz v n xs) (hk : ∀ g, v.ownBlock = some g → w'.heap[g]? = w.heap[g]?) : w'.ownsRow B e sz v n xs := by
  refine ⟨h.1, ?_⟩
  rcases h.2 with h2 | ⟨g, cap, cur, rfl, h2, h3, h4⟩
  · exact .inl h2
  · exact .inr ⟨g, cap, cur, rfl, h2, (hk g rfl).trans h3, h4⟩
theorem own_new {w w' : World} {B sz n : Nat} {e : TypeId} {v : Value} {xs : List Value} (h : w.ownsRow B e sz v n xs) (hb : Below w.heap.size w w') : w'.ownsRow B e sz v n xs :=
  own_move h fun g hg => hb.block g (h.lt g hg).2
theorem own_base {w : World} {B B' sz n : Nat} {e : TypeId} {v : Value} {xs : List Value} (h : w.ownsRow B e sz v n xs) (hB : B' ≤ B) : w.ownsRow B' e sz v n xs := by
  refine ⟨h.1, ?_⟩
  rcases h.2 with h2 | ⟨g, cap, cur, h1, h2, h3⟩
  · exact .inl h2
  · exact .inr ⟨g, cap, cur, h1, by omega, h3⟩
theorem own_lit (w : World) (t : TypeId) (sz n : Nat) (cs : Array Value) (hl : cs.size = n * sz) (hn : n ≤ 1000) : (w.alloc (.cells cs t)).ownsRow w.heap.size t sz (.slice (some ⟨w.heap.size, 0, none⟩) n n) n cs.toList :=
  World.ownsRow_lit (base := w.heap.size) (e := t) (size := sz) w cs n (Nat.le_refl _) (by unfold maxLen; omega) hl
theorem Blk.grow {w w' : World} {g : Nat} {t : TypeId} {cs : Array Value} {row : Option Nat} (h : Blk w g t cs) (hb : w.grownBy w' row) (hg : some g ≠ row) : Blk w' g t cs := (hb.block g h.lt hg).trans h
theorem Reads.spot {w : World} {B sz n : Nat} {A : Option Addr} {xs : List Value} (h : Reads w B sz A n xs) (hn : 0 < n) (hs : 0 < sz) :
    ∃ b off, A = some ⟨b, off, none⟩ ∧ b < B ∧ b < w.heap.size ∧ ∀ j u, xs[j]? = some u → w.cell? ⟨b, off + j, none⟩ = some u := by
  obtain ⟨ad, rfl, hb, hc⟩ := h.2 hn
  have hl : 0 < xs.length := by rw [h.1]; exact Nat.mul_pos hn hs
  obtain ⟨b, off, spot⟩ := ad
  have h0 := hc 0 _ (List.getElem?_eq_getElem hl)
  rw [show (Addr.add ⟨b, off, spot⟩ 0) = ⟨b, off, spot⟩ by simp [Addr.add]] at h0
  have hsp : spot = none := World.cell?_spot h0
  subst hsp
  refine ⟨b, off, rfl, hb, World.block_lt_of_cell? w _ h0, fun j u hu => ?_⟩
  have := hc j u hu
  rw [← this]
  congr 1
  unfold Addr.add
  split
  · rename_i h; subst h; simp
  · rfl
theorem RT.made {w : World} {B : Nat} {t : Tb} {A : Option Addr} {k : Nat} (h : w.ownsRow B 54 5 (.slice A t.ports.length k) t.ports.length (rrow (rports t))) (h1 : 0 < t.ports.length) (h2 : t.ports.length ≤ 8) : RT w t A k :=
  ⟨Reads.of_own h, (own_cap h).1, (own_cap h).2, h1, h2, by
    rcases h.2 with ⟨_, h0⟩ | ⟨g, cap, cur, hv, _, hg, _⟩
    · omega
    · injection hv with hA
      exact ⟨g, 0, cur, _, hA, hg⟩⟩
theorem RT.at_ {w : World} {t : Tb} {A : Option Addr} {k : Nat} (h : RT w t A k) : ∃ b off, A = some ⟨b, off, none⟩ ∧ b < w.heap.size ∧ ∀ (i : Nat) (p : Pt), t.ports[i]? = some p →
    w.cell? ⟨b, off + i * 5, none⟩ = some (.int .i64 p.state) ∧ w.cell? ⟨b, off + i * 5 + 1, none⟩ = some (.int .i64 (rof t.ticks p).n) ∧ w.cell? ⟨b, off + i * 5 + 2, none⟩ = some (.int .i64 p.last.inc) ∧ w.cell? ⟨b, off + i * 5 + 3, none⟩ = some (.int .i64 p.last.port) ∧ w.cell? ⟨b, off + i * 5 + 4, none⟩ = some (.int .i64 (t.ticks - p.since)) := by
  obtain ⟨b, off, rfl, hlt, -, hc⟩ := h.rd.spot h.pos (by omega)
  refine ⟨b, off, rfl, hlt, fun i p hp => ?_⟩
  have g := fun j v (hj : (rpc (rof t.ticks p))[j]? = some v) => hc _ _ (rrow_get (rports_get hp) hj)
  exact ⟨g 0 _ rfl, g 1 _ rfl, g 2 _ rfl, g 3 _ rfl, g 4 _ rfl⟩
theorem info54 : (Try.prog.info? 54).map (fun i => (i.zero, i.size, i.bytes)) = some (some (.agg #[.int .i64 0, .int .i64 0, .int .i64 0, .int .i64 0, .int .i64 0]), 5, 40) := by kernel_rfl
theorem info44 : (Try.prog.info? 44).map (fun i => (i.zero, i.size, i.bytes)) = some (some (.agg #[.int .i64 0, .int .i64 0, .int .i64 0, .int .i64 0]), 4, 32) := by kernel_rfl
theorem in_c (x a b : Int) (w : World) : Calls Try.prog 24 #[.int .i64 x, .int .i64 a, .int .i64 b] w fun e w' => e = .returned (.bool (inB x a b)) ∧ w = w' := by
  go_enter Try.func24, Try.ntmps24
  go_wp2
  all_goals go_ret
  all_goals exact ⟨ret_bool (by simp [inB]; try omega), rfl⟩
theorem fill7 {W : World} {b : Nat} {t : TypeId} {a0 a1 a2 a3 a4 a5 a6 : Value} (h : Blk W b t #[a0, a1, a2, a3, a4, a5, a6]) (x0 x1 x2 x3 x4 x5 x6 : Value) :
    ∃ W', W' = ((((((W.setCell ⟨b, 0, none⟩ x0).setCell ⟨b, 1, none⟩ x1).setCell ⟨b, 2, none⟩ x2).setCell ⟨b, 3, none⟩ x3).setCell ⟨b, 4, none⟩ x4).setCell ⟨b, 5, none⟩ x5).setCell ⟨b, 6, none⟩ x6 ∧ Blk W' b t #[x0, x1, x2, x3, x4, x5, x6] ∧ OnlyP (fun g => g = b) W W' :=
  ⟨_, rfl, ((((((h.set_ 0 x0).set_ 1 x1).set_ 2 x2).set_ 3 x3).set_ 4 x4).set_ 5 x5).to 6 x6 (by simp),
    (((((((OnlyP.refl (fun g => g = b) W).set (p := ⟨b, 0, none⟩) (.inl rfl) _).set (p := ⟨b, 1, none⟩) (.inl rfl) _).set (p := ⟨b, 2, none⟩) (.inl rfl) _).set (p := ⟨b, 3, none⟩) (.inl rfl) _).set (p := ⟨b, 4, none⟩) (.inl rfl) _).set (p := ⟨b, 5, none⟩) (.inl rfl) _).set (p := ⟨b, 6, none⟩) (.inl rfl) _⟩
theorem own_only {w w' : World} {B sz n b : Nat} {e : TypeId} {v : Value} {xs : List Value} (h : w.ownsRow B e sz v n xs) (hk : OnlyP (fun g => g = b) w w') (hb : b < B) : w'.ownsRow B e sz v n xs :=
  own_move h fun g hg => hk.block g (h.lt g hg).2 (fun e => by have := (h.lt g hg).1; omega)
theorem low {w W W' : World} {b : Nat} (h : Below w.heap.size w W) (hk : OnlyP (fun g => g = b) W W') (hb : w.heap.size ≤ b) : Below w.heap.size w W' :=
  h.trans (hk.below (B := w.heap.size) (by rintro g rfl; exact hb) h.size)
def rz : Value := .agg #[.int .i64 0, .int .i64 0, .int .i64 0, .int .i64 0, .slice none 0 0, .int .i64 0, .int .i64 0]
def rp0 : RP := ⟨0, -1, 0, 0, 0⟩
structure NewAt (w : World) (node inc every dead : Int) (wr : World) (i : Nat) (A : Option Addr) (k : Nat) : Prop where
  br : Blk wr w.heap.size 35 #[.int .i64 0, .int .i64 0, .int .i64 0, .int .i64 0, .slice none 0 0, .int .i64 0, .int .i64 0]
  bt : Blk wr (w.heap.size + 1) 35 #[.int .i64 node, .int .i64 inc, .int .i64 every, .int .i64 dead, .slice A i k, .int .i64 0, .int .i64 0]
  own : wr.ownsRow (w.heap.size + 2) 54 5 (.slice A i k) i (rrow (List.replicate i rp0))
  blw : Below w.heap.size w wr
theorem NewAt.add {w wr w9 : World} {node inc every dead : Int} {i k k2 : Nat} {A A2 : Option Addr} (h : NewAt w node inc every dead wr i A k) (o : Obj)
    (hg : (wr.alloc o).grownBy w9 (Value.slice A i k).ownBlock) (ho : w9.ownsRow (w.heap.size + 2) 54 5 (.slice A2 (i + 1) k2) (i + 1) (rrow (List.replicate i rp0) ++ rpc rp0)) :
    NewAt w node inc every dead (w9.setCell ⟨w.heap.size + 1, 4, none⟩ (.slice A2 (i + 1) k2)) (i + 1) A2 k2 := by
  have hrow : ∀ j, (Value.slice A i k).ownBlock = some j → w.heap.size + 2 ≤ j := fun j hj => (h.own.lt j hj).1
  refine ⟨((h.br.alloc o).grow hg (fun e => by have := hrow _ e.symm; omega)).far (by simp only; omega) _, ((h.bt.alloc o).grow hg (fun e => by have := hrow _ e.symm; omega)).to 4 _ rfl, ?_, ?_⟩
  · have := ownsRow_setCell_other ho (a := ⟨w.heap.size + 1, 4, none⟩) (fun e => by have := (ho.lt _ e).1; simp only at this; omega) (.slice A2 (i + 1) k2)
    rw [show List.replicate (i + 1) rp0 = List.replicate i rp0 ++ [rp0] by rw [List.replicate_succ'], rrow_app, show rrow [rp0] = rpc rp0 by simp [rrow]]
    exact this
  · exact ((h.blw.alloc h.blw.size o).grown hg (by have := h.blw.size; simp only [World.size_alloc]; omega) (fun j hj => by have := hrow j hj; omega)).setCell (by simp only; omega) _
def RNews (w : World) (t : Tb) (v : Value) (e : Ending) (w' : World) : Prop :=
  ∃ A k, e = .returned (.tuple #[rval t A k, v]) ∧ RT w' t A k ∧ Below w.heap.size w w'
theorem new_ports (node inc : Int) (n : Nat) (every dead : Int) : rports (new node inc n every dead) = List.replicate n rp0 := by
  simp [rports, new, rof, pt0, rp0]
set_option maxRecDepth 100000 in
set_option maxHeartbeats 4000000 in
theorem rnew_c (node inc : Int) (n : Nat) (every dead : Int) (w : World) (h : newB node inc n every dead = true) :
    Calls Try.prog 16 #[.int .i64 node, .int .i64 inc, .int .i64 (n : Int), .int .i64 every, .int .i64 dead] w (RNews w (new node inc n every dead) (.int .i64 0)) := by
  obtain ⟨⟨a1, a2⟩, ⟨a3, a4⟩, ⟨a5, a6⟩, ⟨a7, a8⟩, a9, a10⟩ := newB_iff.1 h
  have b0 := inB_iff.2 ⟨a1, a2⟩
  have b1 := inB_iff.2 ⟨a3, a4⟩
  have b2 := inB_iff.2 ⟨a5, a6⟩
  have b3 := inB_iff.2 ⟨a7, a8⟩
  have b4 := inB_iff.2 ⟨a9, a10⟩
  obtain ⟨jj, hjj, hy0, hy1, hy2⟩ := info_parts info54
  have hn8 : n ≤ 8 := by omega
  have hn1 : 1 ≤ n := by omega
  clear h
  go_enter Try.func16, Try.ntmps16
  go_wp2_with (go_at_call 24; refine (in_c _ _ _ _).mono ?_; rintro e w1 ⟨rfl, rfl⟩)
  go_loopw [13] (fun v13 wr => ∃ (i : Nat) (A : Option Addr) (k : Nat), i ≤ n ∧ v13 = .int .i64 i ∧ Kept (NewAt w node inc every dead wr i A k)) (fun v13 _ => n - (intOf v13).toNat)
  case atStart =>
    refine ⟨0, none, 0, by omega, rfl, ⟨⟨(Blk.new _ _ _).alloc _, ?_, World.ownsRow_nil _ _ _ _, by go_grown⟩⟩⟩
    simpa using Blk.new (w.alloc (.cells #[.int .i64 0, .int .i64 0, .int .i64 0, .int .i64 0, .slice none 0 0, .int .i64 0, .int .i64 0] 35)) 35 #[.int .i64 node, .int .i64 inc, .int .i64 every, .int .i64 dead, .slice none 0 0, .int .i64 0, .int .i64 0]
  case round =>
    obtain ⟨i, A, k, hi, rfl, HN⟩ := hrel
    have c4 := HN.out.bt.cell 4 (v := .slice A i k) rfl
    have f4 := HN.out.bt.free 4
    have z1 := HN.out.bt.lt
    have hzz := HN.out.blw.size
    by_cases hlt : i < n
    · have HOA := Kept.mk (HN.out.own.alloc (.cells #[.int .i64 0, .int .i64 (-1), .int .i64 0, .int .i64 0, .int .i64 0] 54))
      have HRD := Kept.mk (Reads.of_own (own_lit wr 54 5 1 #[.int .i64 0, .int .i64 (-1), .int .i64 0, .int .i64 0, .int .i64 0] rfl (by omega)))
      have hlen : (rrow (List.replicate i rp0)).length = i * 5 := by rw [rrow_len, List.length_replicate]
      go_wp2_with (at_builtin; refine wpList_append_any _ rfl _ _ _ rfl (w.heap.size + 2) 54 jj _ 5 40 Try.underlying33 hjj hy0 hy1 hy2 rfl (by omega) _ i _ rfl HOA.out _ _ 1 1 _ rfl HRD.out (rrow_one [rp0]) (by unfold maxLen; omega) (by omega) (by simp only [World.size_alloc]; omega) ?_; intro v' w9 ho hgw hat; obtain ⟨A2, k2, rfl⟩ := own_slice ho; have HO9 := Kept.mk ho; have HG9 := Kept.mk hgw; have HT9 := Kept.mk (Blk.grow (HN.out.bt.alloc (.cells #[.int .i64 0, .int .i64 (-1), .int .i64 0, .int .i64 0, .int .i64 0] 54)) hgw (fun e => by have := (HN.out.own.lt _ e.symm).1; omega)); clear ho hgw hat c4 f4; have c4 := HT9.out.cell 4 (v := .slice A i k) rfl; have f4 := HT9.out.free 4; have z9 := HT9.out.lt)
      go_roundw
      case rel => exact ⟨i + 1, A2, k2, by omega, by go_num, ⟨HN.out.add _ HG9.out HO9.out⟩⟩
      case measure => simp [intOf]; omega
    · obtain rfl : i = n := by omega
      have cc0 := HN.out.bt.cell 0 (v := .int .i64 node) rfl
      have cc1 := HN.out.bt.cell 1 (v := .int .i64 inc) rfl
      have cc2 := HN.out.bt.cell 2 (v := .int .i64 every) rfl
      have cc3 := HN.out.bt.cell 3 (v := .int .i64 dead) rfl
      have cc5 := HN.out.bt.cell 5 (v := .int .i64 0) rfl
      have cc6 := HN.out.bt.cell 6 (v := .int .i64 0) rfl
      have g0 := HN.out.br.free 0
      have g1 := HN.out.br.free 1
      have g2 := HN.out.br.free 2
      have g3 := HN.out.br.free 3
      have g4 := HN.out.br.free 4
      have g5 := HN.out.br.free 5
      have g6 := HN.out.br.free 6
      have zz0 := HN.out.br.lt
      have d0 := HN.out.br.cell 0 (v := .int .i64 0) rfl
      have d1 := HN.out.br.cell 1 (v := .int .i64 0) rfl
      have d2 := HN.out.br.cell 2 (v := .int .i64 0) rfl
      have d3 := HN.out.br.cell 3 (v := .int .i64 0) rfl
      have d4 := HN.out.br.cell 4 (v := .slice none 0 0) rfl
      have d5 := HN.out.br.cell 5 (v := .int .i64 0) rfl
      have d6 := HN.out.br.cell 6 (v := .int .i64 0) rfl
      go_wp2_with fail
      obtain ⟨W9, hW9, hB9, hO9⟩ := fill7 HN.out.br (.int .i64 node) (.int .i64 inc) (.int .i64 every) (.int .i64 dead) (.slice A i k) (.int .i64 0) (.int .i64 0)
      rw [← hW9]
      have s0 := hB9.cell 0 (v := .int .i64 node) rfl
      have s1 := hB9.cell 1 (v := .int .i64 inc) rfl
      have s2 := hB9.cell 2 (v := .int .i64 every) rfl
      have s3 := hB9.cell 3 (v := .int .i64 dead) rfl
      have s4 := hB9.cell 4 (v := .slice A i k) rfl
      have s5 := hB9.cell 5 (v := .int .i64 0) rfl
      have s6 := hB9.cell 6 (v := .int .i64 0) rfl
      have HO9 := Kept.mk (own_only HN.out.own hO9 (by omega))
      have HL9 := Kept.mk (low HN.out.blw hO9 (Nat.le_refl _))
      clear hB9 hO9 hW9
      refine bodyPost_ret (v := .tuple #[.agg #[.int .i64 node, .int .i64 inc, .int .i64 every, .int .i64 dead, .slice A i k, .int .i64 0, .int .i64 0], .int .i64 0]) (by simp [results, Try.results16, go_sem, s0, s1, s2, s3, s4, s5, s6]) rfl ?_
      have hl : (new node inc i every dead).ports.length = i := by simp [new]
      refine ⟨A, k, by simp only [rval, rcs, hl]; rfl, RT.made (B := w.heap.size + 2) ?_ (by rw [hl]; omega) (by rw [hl]; omega), HL9.out⟩
      rw [hl, new_ports]
      exact HO9.out
theorem rnewNot_c (node inc ports every dead : Int) (w : World) (h : newB node inc ports every dead = false) :
    Calls Try.prog 16 #[.int .i64 node, .int .i64 inc, .int .i64 ports, .int .i64 every, .int .i64 dead] w fun e w' => e = .returned (.tuple #[rz, .int .i64 2]) ∧ Below w.heap.size w w' := by
  cases c0 : inB node 0 15 with
  | false =>
      clear h
      have HB0 := Kept.mk (Blk.new w 35 #[.int .i64 0, .int .i64 0, .int .i64 0, .int .i64 0, .slice none 0 0, .int .i64 0, .int .i64 0])
      have f0 := HB0.out.free 0
      have f1 := HB0.out.free 1
      have f2 := HB0.out.free 2
      have f3 := HB0.out.free 3
      have f4 := HB0.out.free 4
      have f5 := HB0.out.free 5
      have f6 := HB0.out.free 6
      go_enter Try.func16, Try.ntmps16
      go_wp2_with (go_at_call 24; refine (in_c _ _ _ _).mono ?_; rintro e w1 ⟨rfl, rfl⟩)
      have s0 := HB0.out.cell 0 (v := .int .i64 0) rfl
      have s1 := HB0.out.cell 1 (v := .int .i64 0) rfl
      have s2 := HB0.out.cell 2 (v := .int .i64 0) rfl
      have s3 := HB0.out.cell 3 (v := .int .i64 0) rfl
      have s4 := HB0.out.cell 4 (v := .slice none 0 0) rfl
      have s5 := HB0.out.cell 5 (v := .int .i64 0) rfl
      have s6 := HB0.out.cell 6 (v := .int .i64 0) rfl
      exact bodyPost_ret (v := .tuple #[.agg #[.int .i64 0, .int .i64 0, .int .i64 0, .int .i64 0, .slice none 0 0, .int .i64 0, .int .i64 0], .int .i64 2]) (by simp [results, Try.results16, go_sem, s0, s1, s2, s3, s4, s5, s6]) rfl ⟨rfl, by go_grown⟩
  | true =>
    cases c1 : inB inc 1 1099511627775 with
    | false =>
        clear h
        have HB0 := Kept.mk (Blk.new w 35 #[.int .i64 0, .int .i64 0, .int .i64 0, .int .i64 0, .slice none 0 0, .int .i64 0, .int .i64 0])
        have f0 := HB0.out.free 0
        have f1 := HB0.out.free 1
        have f2 := HB0.out.free 2
        have f3 := HB0.out.free 3
        have f4 := HB0.out.free 4
        have f5 := HB0.out.free 5
        have f6 := HB0.out.free 6
        go_enter Try.func16, Try.ntmps16
        go_wp2_with (go_at_call 24; refine (in_c _ _ _ _).mono ?_; rintro e w1 ⟨rfl, rfl⟩)
        have s0 := HB0.out.cell 0 (v := .int .i64 0) rfl
        have s1 := HB0.out.cell 1 (v := .int .i64 0) rfl
        have s2 := HB0.out.cell 2 (v := .int .i64 0) rfl
        have s3 := HB0.out.cell 3 (v := .int .i64 0) rfl
        have s4 := HB0.out.cell 4 (v := .slice none 0 0) rfl
        have s5 := HB0.out.cell 5 (v := .int .i64 0) rfl
        have s6 := HB0.out.cell 6 (v := .int .i64 0) rfl
        exact bodyPost_ret (v := .tuple #[.agg #[.int .i64 0, .int .i64 0, .int .i64 0, .int .i64 0, .slice none 0 0, .int .i64 0, .int .i64 0], .int .i64 2]) (by simp [results, Try.results16, go_sem, s0, s1, s2, s3, s4, s5, s6]) rfl ⟨rfl, by go_grown⟩
    | true =>
      cases c2 : inB ports 1 8 with
      | false =>
          clear h
          have HB0 := Kept.mk (Blk.new w 35 #[.int .i64 0, .int .i64 0, .int .i64 0, .int .i64 0, .slice none 0 0, .int .i64 0, .int .i64 0])
          have f0 := HB0.out.free 0
          have f1 := HB0.out.free 1
          have f2 := HB0.out.free 2
          have f3 := HB0.out.free 3
          have f4 := HB0.out.free 4
          have f5 := HB0.out.free 5
          have f6 := HB0.out.free 6
          go_enter Try.func16, Try.ntmps16
          go_wp2_with (go_at_call 24; refine (in_c _ _ _ _).mono ?_; rintro e w1 ⟨rfl, rfl⟩)
          have s0 := HB0.out.cell 0 (v := .int .i64 0) rfl
          have s1 := HB0.out.cell 1 (v := .int .i64 0) rfl
          have s2 := HB0.out.cell 2 (v := .int .i64 0) rfl
          have s3 := HB0.out.cell 3 (v := .int .i64 0) rfl
          have s4 := HB0.out.cell 4 (v := .slice none 0 0) rfl
          have s5 := HB0.out.cell 5 (v := .int .i64 0) rfl
          have s6 := HB0.out.cell 6 (v := .int .i64 0) rfl
          exact bodyPost_ret (v := .tuple #[.agg #[.int .i64 0, .int .i64 0, .int .i64 0, .int .i64 0, .slice none 0 0, .int .i64 0, .int .i64 0], .int .i64 2]) (by simp [results, Try.results16, go_sem, s0, s1, s2, s3, s4, s5, s6]) rfl ⟨rfl, by go_grown⟩
      | true =>
        cases c3 : inB every 1 1000 with
        | false =>
            clear h
            have HB0 := Kept.mk (Blk.new w 35 #[.int .i64 0, .int .i64 0, .int .i64 0, .int .i64 0, .slice none 0 0, .int .i64 0, .int .i64 0])
            have f0 := HB0.out.free 0
            have f1 := HB0.out.free 1
            have f2 := HB0.out.free 2
            have f3 := HB0.out.free 3
            have f4 := HB0.out.free 4
            have f5 := HB0.out.free 5
            have f6 := HB0.out.free 6
            go_enter Try.func16, Try.ntmps16
            go_wp2_with (go_at_call 24; refine (in_c _ _ _ _).mono ?_; rintro e w1 ⟨rfl, rfl⟩)
            have s0 := HB0.out.cell 0 (v := .int .i64 0) rfl
            have s1 := HB0.out.cell 1 (v := .int .i64 0) rfl
            have s2 := HB0.out.cell 2 (v := .int .i64 0) rfl
            have s3 := HB0.out.cell 3 (v := .int .i64 0) rfl
            have s4 := HB0.out.cell 4 (v := .slice none 0 0) rfl
            have s5 := HB0.out.cell 5 (v := .int .i64 0) rfl
            have s6 := HB0.out.cell 6 (v := .int .i64 0) rfl
            exact bodyPost_ret (v := .tuple #[.agg #[.int .i64 0, .int .i64 0, .int .i64 0, .int .i64 0, .slice none 0 0, .int .i64 0, .int .i64 0], .int .i64 2]) (by simp [results, Try.results16, go_sem, s0, s1, s2, s3, s4, s5, s6]) rfl ⟨rfl, by go_grown⟩
        | true =>
          cases c4 : inB dead 1 1000 with
          | false =>
              clear h
              have HB0 := Kept.mk (Blk.new w 35 #[.int .i64 0, .int .i64 0, .int .i64 0, .int .i64 0, .slice none 0 0, .int .i64 0, .int .i64 0])
              have f0 := HB0.out.free 0
              have f1 := HB0.out.free 1
              have f2 := HB0.out.free 2
              have f3 := HB0.out.free 3
              have f4 := HB0.out.free 4
              have f5 := HB0.out.free 5
              have f6 := HB0.out.free 6
              go_enter Try.func16, Try.ntmps16
              go_wp2_with (go_at_call 24; refine (in_c _ _ _ _).mono ?_; rintro e w1 ⟨rfl, rfl⟩)
              have s0 := HB0.out.cell 0 (v := .int .i64 0) rfl
              have s1 := HB0.out.cell 1 (v := .int .i64 0) rfl
              have s2 := HB0.out.cell 2 (v := .int .i64 0) rfl
              have s3 := HB0.out.cell 3 (v := .int .i64 0) rfl
              have s4 := HB0.out.cell 4 (v := .slice none 0 0) rfl
              have s5 := HB0.out.cell 5 (v := .int .i64 0) rfl
              have s6 := HB0.out.cell 6 (v := .int .i64 0) rfl
              exact bodyPost_ret (v := .tuple #[.agg #[.int .i64 0, .int .i64 0, .int .i64 0, .int .i64 0, .slice none 0 0, .int .i64 0, .int .i64 0], .int .i64 2]) (by simp [results, Try.results16, go_sem, s0, s1, s2, s3, s4, s5, s6]) rfl ⟨rfl, by go_grown⟩
          | true =>
            simp [newB, c0, c1, c2, c3, c4] at h
end Go.Proofs.Ytkbnacboianjkaa
