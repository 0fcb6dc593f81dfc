/- A level: what it is, and how its state lies in memory. -/
import Derived.Test.YtjalegdfofogcaaFilC
namespace Go.Proofs.Ytjalegdfofogcaa
set_option linter.unusedVariables false
set_option linter.unusedSimpArgs false
open Go.RowKit
theorem RowBlk.set2 {α : Type} {w : World} {g : Nat} {t : TypeId} {f : α → List Value} {l : List α} (h : RowBlk w g t f l) (hf : ∀ x, (f x).length = 2) {k : Nat} (hk : k < l.length) {x : α} {a b : Value} (hx : f x = [a, b]) :
    RowBlk ((w.setCell ⟨g, k * 2, none⟩ a).setCell ⟨g, k * 2 + 1, none⟩ b) g t f (l.set k x) := by
  refine Blk.to (Blk.set_ h (k * 2) a) (k * 2 + 1) b ?_
  apply Array.ext'
  simp only [Array.toList_setIfInBounds]
  apply List.ext_getElem?
  intro i
  rw [flat_set hf (by omega) hk, hx]
  simp only [List.getElem?_set, List.length_set, flat_len hf]
  by_cases e : i / 2 = k
  · have hm : i % 2 < 2 := Nat.mod_lt _ (by omega)
    have hi := Nat.div_add_mod i 2
    rw [if_pos e]
    rcases (by omega : i % 2 = 0 ∨ i % 2 = 1) with h0 | h0
    · rw [h0, if_neg (by omega), if_pos (by omega), if_pos (by omega)]; rfl
    · rw [h0, if_pos (by omega), if_pos (by omega)]; rfl
  · rw [if_neg e]
    have : i / 2 * 2 ≤ i := Nat.div_mul_le_self i 2
    rw [if_neg (by omega), if_neg (by omega)]
theorem infoR : (Try.prog.info? 32).map (fun i => (i.zero, i.size, i.bytes)) = some (some (.agg #[.int .i64 0, .int .i64 0]), 2, 16) := by kernel_rfl
theorem infoO : (Try.prog.info? 4).map (fun i => (i.zero, i.size, i.bytes)) = some (some (.bool false), 1, 1) := by kernel_rfl
theorem infoI : (Try.prog.info? 3).map (fun i => (i.zero, i.size, i.bytes)) = some (some (.int .i64 0), 1, 8) := by kernel_rfl
def flo (n : PNet) (k : Nat) : PFlow := n.flows.getD k ⟨[], none, 0, false, ⟨0, 0⟩⟩
def usedB (n : PNet) (fz : List Bool) (l : Nat) : Bool := decide (0 < ocnt n.flows fz l n.flows.length)
def lkArr (n : PNet) (fz : List Bool) (rs : List Rq) (k : Nat) : List Rq := (List.range n.caps.length).map fun l => if decide (l < k) && usedB n fz l then cq (candQ n fz rs l) else ⟨0, 0⟩
def usArr (n : PNet) (fz : List Bool) (k : Nat) : List Bool := (List.range n.caps.length).map fun l => decide (l < k) && usedB n fz l
def lst1 (n : PNet) (fz : List Bool) (rs : List Rq) : Nat → Bool × Rq
  | 0 => (false, ⟨0, 0⟩)
  | k + 1 => if usedB n fz k then cons1 (lst1 n fz rs k) (cq (candQ n fz rs k)) else lst1 n fz rs k
def lst2 (n : PNet) (fz : List Bool) (rs : List Rq) : Nat → Bool × Rq
  | 0 => lst1 n fz rs n.caps.length
  | k + 1 => if !isF fz k && (flo n k).b then cons1 (lst2 n fz rs k) (flo n k).d else lst2 n fz rs k
def leastQ (n : PNet) (fz : List Bool) (rs : List Rq) : Rq := (lst2 n fz rs n.flows.length).2
def rateQ (n : PNet) (fz : List Bool) (rs : List Rq) : Rq := if (leastQ n fz rs).n = 0 then ⟨0, 1⟩ else leastQ n fz rs
def linkEq (n : PNet) (fz : List Bool) (rs : List Rq) (x : Int) : Bool := usedB n fz x.toNat && cmpQ (cq (candQ n fz rs x.toNat)) (leastQ n fz rs) == 0
def hereB (n : PNet) (fz : List Bool) (rs : List Rq) (p : PFlow) : Bool := (p.b && cmpQ p.d (leastQ n fz rs) == 0) || p.ls.any (linkEq n fz rs)
/-- The flows that are frozen at this level, of the first k. -/
def frzL (n : PNet) (fz : List Bool) (rs : List Rq) : Nat → List Int
  | 0 => []
  | k + 1 => if !isF fz k && hereB n fz rs (flo n k) then frzL n fz rs k ++ [(k : Int)] else frzL n fz rs k
theorem flo_of {n : PNet} {k : Nat} {p : PFlow} (h : n.flows[k]? = some p) : flo n k = p := by unfold flo; rw [List.getD_eq_getElem?_getD, h]; rfl
theorem lkArr_len (n : PNet) (fz : List Bool) (rs : List Rq) (k : Nat) : (lkArr n fz rs k).length = n.caps.length := by simp [lkArr]
theorem usArr_len (n : PNet) (fz : List Bool) (k : Nat) : (usArr n fz k).length = n.caps.length := by simp [usArr]
theorem lkArr_get {n : PNet} {fz : List Bool} {rs : List Rq} {k l : Nat} (hl : l < n.caps.length) : (lkArr n fz rs k)[l]? = some (if decide (l < k) && usedB n fz l then cq (candQ n fz rs l) else ⟨0, 0⟩) := by
  unfold lkArr; rw [List.getElem?_map, List.getElem?_range hl]; rfl
theorem usArr_get {n : PNet} {fz : List Bool} {k l : Nat} (hl : l < n.caps.length) : (usArr n fz k)[l]? = some (decide (l < k) && usedB n fz l) := by
  unfold usArr; rw [List.getElem?_map, List.getElem?_range hl]; rfl
theorem lkArr_zero (n : PNet) (fz : List Bool) (rs : List Rq) : lkArr n fz rs 0 = List.replicate n.caps.length ⟨0, 0⟩ := by
  apply List.ext_getElem?
  intro i
  by_cases hi : i < n.caps.length
  · rw [lkArr_get hi, List.getElem?_replicate, if_pos hi]; simp
  · rw [List.getElem?_eq_none (by rw [lkArr_len]; omega), List.getElem?_eq_none (by rw [List.length_replicate]; omega)]
theorem usArr_zero (n : PNet) (fz : List Bool) : usArr n fz 0 = List.replicate n.caps.length false := by
  apply List.ext_getElem?
  intro i
  by_cases hi : i < n.caps.length
  · rw [usArr_get hi, List.getElem?_replicate, if_pos hi]; simp
  · rw [List.getElem?_eq_none (by rw [usArr_len]; omega), List.getElem?_eq_none (by rw [List.length_replicate]; omega)]
theorem lkArr_skip {n : PNet} {fz : List Bool} {rs : List Rq} {k : Nat} (h : usedB n fz k = false) : lkArr n fz rs (k + 1) = lkArr n fz rs k := by
  unfold lkArr
  apply List.map_congr_left
  intro l _
  by_cases e : l = k
  · subst e; rw [h]; simp
  · rw [show decide (l < k + 1) = decide (l < k) by by_cases h : l < k <;> simp [h] <;> omega]
theorem usArr_skip {n : PNet} {fz : List Bool} {k : Nat} (h : usedB n fz k = false) : usArr n fz (k + 1) = usArr n fz k := by
  unfold usArr
  apply List.map_congr_left
  intro l _
  by_cases e : l = k
  · subst e; rw [h]; simp
  · rw [show decide (l < k + 1) = decide (l < k) by by_cases h : l < k <;> simp [h] <;> omega]
theorem lkArr_next {n : PNet} {fz : List Bool} {rs : List Rq} {k : Nat} (hk : k < n.caps.length) (h : usedB n fz k = true) : lkArr n fz rs (k + 1) = (lkArr n fz rs k).set k (cq (candQ n fz rs k)) := by
  apply List.ext_getElem?
  intro i
  by_cases hi : i < n.caps.length
  · rw [lkArr_get hi, List.getElem?_set, lkArr_len]
    by_cases e : k = i
    · subst e; rw [if_pos rfl, if_pos hi, h]; simp
    · rw [if_neg e, lkArr_get hi, show decide (i < k + 1) = decide (i < k) by by_cases h : i < k <;> simp [h] <;> omega]
  · rw [List.getElem?_eq_none (by rw [lkArr_len]; omega), List.getElem?_eq_none (by rw [List.length_set, lkArr_len]; omega)]
theorem usArr_next {n : PNet} {fz : List Bool} {k : Nat} (hk : k < n.caps.length) (h : usedB n fz k = true) : usArr n fz (k + 1) = (usArr n fz k).set k true := by
  apply List.ext_getElem?
  intro i
  by_cases hi : i < n.caps.length
  · rw [usArr_get hi, List.getElem?_set, usArr_len]
    by_cases e : k = i
    · subst e; rw [if_pos rfl, if_pos hi, h]; simp
    · rw [if_neg e, usArr_get hi, show decide (i < k + 1) = decide (i < k) by by_cases h : i < k <;> simp [h] <;> omega]
  · rw [List.getElem?_eq_none (by rw [usArr_len]; omega), List.getElem?_eq_none (by rw [List.length_set, usArr_len]; omega)]
theorem cons1_64 {s : Bool × Rq} {r : Rq} (hs : R64 s.2.n ∧ R64 s.2.d) (hr : R64 r.n ∧ R64 r.d) : R64 (cons1 s r).2.n ∧ R64 (cons1 s r).2.d := by
  unfold cons1
  split
  · exact hs
  · exact hr
theorem sm_64 {x : Rat} (h : Sm x) : R64 (cq x).n ∧ R64 (cq x).d := okQ_R64 h.ok
theorem lst1_64 {n : PNet} {fz : List Bool} {rs : List Rq} (hs : ∀ l, l < n.caps.length → usedB n fz l = true → Sm (candQ n fz rs l)) {k : Nat} (hk : k ≤ n.caps.length) : R64 (lst1 n fz rs k).2.n ∧ R64 (lst1 n fz rs k).2.d := by
  induction k with
  | zero => unfold lst1 R64; dsimp only; omega
  | succ k ih =>
    unfold lst1
    split
    · rename_i h
      exact cons1_64 (ih (by omega)) (sm_64 (hs k (by omega) h))
    · exact ih (by omega)
theorem flo_64 {n : PNet} (hd : ∀ p ∈ n.flows, R64 p.d.n ∧ R64 p.d.d) (k : Nat) : R64 (flo n k).d.n ∧ R64 (flo n k).d.d := by
  unfold flo
  rw [List.getD_eq_getElem?_getD]
  cases h : n.flows[k]? with
  | none => unfold R64; dsimp only [Option.getD_none]; omega
  | some p => exact hd p (List.mem_of_getElem? h)
theorem lst2_64 {n : PNet} {fz : List Bool} {rs : List Rq} (hs : ∀ l, l < n.caps.length → usedB n fz l = true → Sm (candQ n fz rs l)) (hd : ∀ p ∈ n.flows, R64 p.d.n ∧ R64 p.d.d) (k : Nat) : R64 (lst2 n fz rs k).2.n ∧ R64 (lst2 n fz rs k).2.d := by
  induction k with
  | zero => unfold lst2; exact lst1_64 hs (Nat.le_refl _)
  | succ k ih =>
    unfold lst2
    split
    · exact cons1_64 ih (flo_64 hd k)
    · exact ih
theorem FillAt.only {S : Nat → Prop} {W W' : World} {B g gr gz : Nat} {n : PNet} {rs : List Rq} {fz : List Bool} (h : FillAt W B g gr gz n rs fz) (k : OnlyP S W W') (hS : ∀ b, S b → B ≤ b ∧ b ≠ g ∧ b ≠ gr ∧ b ≠ gz) : FillAt W' B g gr gz n rs fz :=
  ⟨h.box.only k (fun x => (hS _ x).2.1 rfl), h.net.keep (B' := B) fun p hp => World.cell?_of_block (k.block p.block (by have := h.box.lt; have := h.bg; omega) (fun x => by have := hS _ x; omega)), h.rr.only k (fun x => (hS _ x).2.2.1 rfl), h.rz.only k (fun x => (hS _ x).2.2.2 rfl), h.lr, h.lz, h.bg, h.r64⟩
/-- The boxes and rows of level. -/
structure LB (w W : World) (B g gr gz : Nat) (n : PNet) (rs : List Rq) (fz : List Bool) (s : Bool × Rq) (L : List Rq) (U : List Bool) : Prop where
  st : FillAt W B g gr gz n rs fz
  r : Blk W w.heap.size 68 #[.int .i64 0, .int .i64 0, .slice none 0 0]
  le : Blk W (w.heap.size + 1) 32 #[.int .i64 s.2.n, .int .i64 s.2.d]
  fo : Blk W (w.heap.size + 2) 4 #[.bool s.1]
  lk : RowBlk W (w.heap.size + 3) 32 ccell L
  us : RowBlk W (w.heap.size + 4) 4 boolc U
  blw : Below w.heap.size w W
section
variable {w W W' : World} {B g gr gz : Nat} {n : PNet} {rs : List Rq} {fz : List Bool} {s : Bool × Rq} {L : List Rq} {U : List Bool}
theorem LB.new_ (h : LB w W B g gr gz n rs fz s L U) (hb : Below W.heap.size W W') : LB w W' B g gr gz n rs fz s L U := ⟨h.st.new_ hb, h.r.new_ hb, h.le.new_ hb, h.fo.new_ hb, h.lk.new_ hb, h.us.new_ hb, join h.blw hb⟩
theorem LB.alloc (h : LB w W B g gr gz n rs fz s L U) (o : Obj) : LB w (W.alloc o) B g gr gz n rs fz s L U := h.new_ ((Below.refl _ _).alloc (Nat.le_refl _) o)
theorem LB.step (h : LB w W B g gr gz n rs fz s L U) (hg : g < w.heap.size ∧ gr < w.heap.size ∧ gz < w.heap.size ∧ B ≤ w.heap.size) {t : Bool × Rq} (hl : Blk W' (w.heap.size + 1) 32 #[.int .i64 t.2.n, .int .i64 t.2.d]) (hf : Blk W' (w.heap.size + 2) 4 #[.bool t.1]) (ho : OnlyP (fun b => b = w.heap.size + 1 ∨ b = w.heap.size + 2) W W') : LB w W' B g gr gz n rs fz t L U :=
  ⟨h.st.only ho (fun b hb => by omega), h.r.only ho (by omega), hl, hf, h.lk.only ho (by omega), h.us.only ho (by omega), joinP h.blw ho (fun k hk => by omega) (Nat.le_refl _)⟩
theorem LB.putL (h : LB w W B g gr gz n rs fz s L U) (hg : g < w.heap.size ∧ gr < w.heap.size ∧ gz < w.heap.size ∧ B ≤ w.heap.size) {k : Nat} (hk : k < L.length) (hk2 : k < U.length) (x : Rq) :
    LB w (((W.setCell ⟨w.heap.size + 3, k * 2, none⟩ (.int .i64 x.n)).setCell ⟨w.heap.size + 3, k * 2 + 1, none⟩ (.int .i64 x.d)).setCell ⟨w.heap.size + 4, k, none⟩ (.bool true)) B g gr gz n rs fz s (L.set k x) (U.set k true) := by
  have e : ∀ {V : World} (o : Nat) (v : Value) (q : Nat), (q = 3 ∨ q = 4) → FillAt V B g gr gz n rs fz → FillAt (V.setCell ⟨w.heap.size + q, o, none⟩ v) B g gr gz n rs fz := fun o v q hq hv => hv.set_ (w := w) (by simp only; omega) (by simp only; omega) (by simp only; omega) (by simp only; omega) v
  exact ⟨e _ _ 4 (by omega) (e _ _ 3 (by omega) (e _ _ 3 (by omega) h.st)), ((h.r.far (by simp only; omega) _).far (by simp only; omega) _).far (by simp only; omega) _,
    ((h.le.far (by simp only; omega) _).far (by simp only; omega) _).far (by simp only; omega) _, ((h.fo.far (by simp only; omega) _).far (by simp only; omega) _).far (by simp only; omega) _,
    (h.lk.set2 ccell_len hk rfl).far (by simp only; omega) _, ((h.us.far (by simp only; omega) _).far (by simp only; omega) _).set1 boolc_len hk2 rfl,
    ((h.blw.setCell (by simp only; omega) _).setCell (by simp only; omega) _).setCell (by simp only; omega) _⟩
theorem LB.start (h : FillAt w B g gr gz n rs fz) (nl : Nat) : LB w (((((w.alloc (.cells #[.int .i64 0, .int .i64 0, .slice none 0 0] 68)).alloc (.cells #[.int .i64 0, .int .i64 0] 32)).alloc (.cells #[.bool false] 4)).alloc (.cells ((List.replicate nl (⟨0, 0⟩ : Rq)).flatMap ccell).toArray 32)).alloc (.cells ((List.replicate nl false).flatMap boolc).toArray 4)) B g gr gz n rs fz (false, ⟨0, 0⟩) (List.replicate nl ⟨0, 0⟩) (List.replicate nl false) := by
  have h1 : Blk ((w.alloc (.cells #[.int .i64 0, .int .i64 0, .slice none 0 0] 68)).alloc (.cells #[.int .i64 0, .int .i64 0] 32)) (w.heap.size + 1) 32 #[.int .i64 0, .int .i64 0] := by
    have := Blk.new (w.alloc (.cells #[.int .i64 0, .int .i64 0, .slice none 0 0] 68)) 32 #[.int .i64 0, .int .i64 0]
    rwa [World.size_alloc] at this
  have h2 : Blk (((w.alloc (.cells #[.int .i64 0, .int .i64 0, .slice none 0 0] 68)).alloc (.cells #[.int .i64 0, .int .i64 0] 32)).alloc (.cells #[.bool false] 4)) (w.heap.size + 2) 4 #[.bool false] := by
    have := Blk.new ((w.alloc (.cells #[.int .i64 0, .int .i64 0, .slice none 0 0] 68)).alloc (.cells #[.int .i64 0, .int .i64 0] 32)) 4 #[.bool false]
    rwa [World.size_alloc, World.size_alloc] at this
  have h3 : Blk ((((w.alloc (.cells #[.int .i64 0, .int .i64 0, .slice none 0 0] 68)).alloc (.cells #[.int .i64 0, .int .i64 0] 32)).alloc (.cells #[.bool false] 4)).alloc (.cells ((List.replicate nl (⟨0, 0⟩ : Rq)).flatMap ccell).toArray 32)) (w.heap.size + 3) 32 ((List.replicate nl (⟨0, 0⟩ : Rq)).flatMap ccell).toArray := by
    have := Blk.new (((w.alloc (.cells #[.int .i64 0, .int .i64 0, .slice none 0 0] 68)).alloc (.cells #[.int .i64 0, .int .i64 0] 32)).alloc (.cells #[.bool false] 4)) 32 ((List.replicate nl (⟨0, 0⟩ : Rq)).flatMap ccell).toArray
    rwa [World.size_alloc, World.size_alloc, World.size_alloc] at this
  have h4 : Blk (((((w.alloc (.cells #[.int .i64 0, .int .i64 0, .slice none 0 0] 68)).alloc (.cells #[.int .i64 0, .int .i64 0] 32)).alloc (.cells #[.bool false] 4)).alloc (.cells ((List.replicate nl (⟨0, 0⟩ : Rq)).flatMap ccell).toArray 32)).alloc (.cells ((List.replicate nl false).flatMap boolc).toArray 4)) (w.heap.size + 4) 4 ((List.replicate nl false).flatMap boolc).toArray := by
    have := Blk.new ((((w.alloc (.cells #[.int .i64 0, .int .i64 0, .slice none 0 0] 68)).alloc (.cells #[.int .i64 0, .int .i64 0] 32)).alloc (.cells #[.bool false] 4)).alloc (.cells ((List.replicate nl (⟨0, 0⟩ : Rq)).flatMap ccell).toArray 32)) 4 ((List.replicate nl false).flatMap boolc).toArray
    rwa [World.size_alloc, World.size_alloc, World.size_alloc, World.size_alloc] at this
  have hb : Below w.heap.size w (((((w.alloc (.cells #[.int .i64 0, .int .i64 0, .slice none 0 0] 68)).alloc (.cells #[.int .i64 0, .int .i64 0] 32)).alloc (.cells #[.bool false] 4)).alloc (.cells ((List.replicate nl (⟨0, 0⟩ : Rq)).flatMap ccell).toArray 32)).alloc (.cells ((List.replicate nl false).flatMap boolc).toArray 4)) := by go_grown
  exact ⟨h.new_ hb, ((((Blk.new _ _ _).alloc _).alloc _).alloc _).alloc _, ((h1.alloc _).alloc _).alloc _, (h2.alloc _).alloc _, Blk.alloc h3 _, h4, hb⟩
end
end Go.Proofs.Ytjalegdfofogcaa
