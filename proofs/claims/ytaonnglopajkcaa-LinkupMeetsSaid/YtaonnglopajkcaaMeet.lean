/- Linkup: two sides over two channels: what a round of both sides keeps (plain), and how all of it lies in memory. -/
import Derived.Test.YtaonnglopajkcaaPlainM
import Derived.Test.YtaonnglopajkcaaMaps
import Derived.Test.YtaonnglopajkcaaWalksC
import Derived.StillTailTactics
import Derived.Deep.RegionHeld3
import Derived.Deep.DeepCutAuto
import Derived.Deep.CutBlock
namespace Go.Proofs.Ytaonnglopajkcaa
set_option linter.unusedVariables false
set_option linter.unusedSimpArgs false
open Go.RowKit Go.Maps
structure Kept (p : Prop) : Prop where
  out : p
def upd {α : Type} (f : Nat → α) (i : Nat) (v : α) : Nat → α := fun r => if r = i then v else f r
theorem upd_same {α : Type} (f : Nat → α) (i : Nat) (v : α) : upd f i v i = v := by simp [upd]
theorem upd_other {α : Type} (f : Nat → α) {i r : Nat} (v : α) (h : r ≠ i) : upd f i v r = f r := by simp [upd, h]
def xr (re : Bool) (x : Nat → Int) (i : Nat) : Nat → Int := if re then upd x i (x i + 1) else x
def sr (re : Bool) (n : Int) (x : Nat → Int) (s : Nat → Sd) (i : Nat) : Nat → Sd := if re then upd s i (new (x i + 1) n) else s
/-- Both sides while the sides below i have ticked and sent. -/
structure Pl (L d n t : Int) (i : Nat) (x : Nat → Int) (s : Nat → Sd) (C : Nat → Chan) : Prop where
  dir : ∀ r, r < 2 → Dir L d n t (decide (r < i)) (decide (1 - r < i)) (s r) (x r) (x (1 - r)) (C r)
  xb : ∀ r, r < 2 → 1 ≤ x r ∧ x r ≤ 20 + t + one (decide (r < i))
/-- Both sides while those below i have heard. -/
structure Ph (L d n t : Int) (i : Nat) (x : Nat → Int) (s : Nat → Sd) (C : Nat → Chan) : Prop where
  old : ∀ r, i ≤ r → r < 2 → Dir L d n t true true (s r) (x r) (x (1 - r)) (C r)
  neu : ∀ r, r < i → r < 2 → Dir L d n (t + 1) false false (s r) (x r) (x (1 - r)) (C r)
  xb : ∀ r, r < 2 → 1 ≤ x r ∧ x r ≤ 20 + t + 1
section
variable {L d n t : Int} {i : Nat} {x : Nat → Int} {s : Nat → Sd} {C : Nat → Chan}
/-- Behind a restart, if there is one. -/
theorem Pl.re_ (h : Pl L d n t i x s C) (hi : i < 2) (h0 : 0 ≤ t) (hd : 1 ≤ d) (re : Bool) (hre : re = true → t < L) :
    (∀ r, r < 2 → Dir L d n t (decide (r < i)) (decide (1 - r < i)) (sr re n x s i r) (xr re x i r) (xr re x i (1 - r)) (C r)) ∧ (∀ r, r < 2 → 1 ≤ xr re x i r ∧ xr re x i r ≤ 20 + t + one (decide (r < i + 1))) := by
  cases re with
  | false =>
    refine ⟨h.dir, fun r hr => ?_⟩
    have := h.xb r hr
    have h1 : one (decide (r < i)) ≤ one (decide (r < i + 1)) := by
      by_cases e : r < i
      · rw [decide_eq_true e, decide_eq_true (show r < i + 1 by omega)]; exact Int.le_refl _
      · rw [decide_eq_false e]; have := one_bd (decide (r < i + 1)); simp [one] at this ⊢; split <;> omega
    simp only [xr]
    exact ⟨this.1, by simp; omega⟩
  | true =>
    have ht := hre rfl
    simp only [sr, xr, if_true]
    refine ⟨fun r hr => ?_, fun r hr => ?_⟩
    · have hD := h.dir r hr
      by_cases e : r = i
      · subst e
        rw [upd_same, upd_same, upd_other _ _ (show 1 - r ≠ r by omega)]
        exact hD.again ht h0 hd _
      · have e1 : 1 - r = i := by omega
        rw [upd_other _ _ e, upd_other _ _ e, e1, upd_same]
        rw [e1] at hD
        exact hD.other ht hd
    · have := h.xb r hr
      by_cases e : r = i
      · subst e
        rw [upd_same, decide_eq_true (Nat.lt_succ_self r)]
        rw [decide_eq_false (Nat.lt_irrefl r)] at this
        simp [one] at this ⊢; omega
      · rw [upd_other _ _ e]
        have h1 : decide (r < i + 1) = decide (r < i) := by rw [Bool.eq_iff_iff]; simp; omega
        rw [h1]; exact this
/-- Behind a tick and what was sent or lost. -/
theorem Pl.step (h : Pl L d n t i x s C) (hi : i < 2) (h0 : 0 ≤ t) (hd : 1 ≤ d) (hn : 2 ≤ n) (re : Bool) (hre : re = true → t < L) (C' : Nat → Chan)
    (hC : C' = upd C (1 - i) (fun k => if k = t + d then some (xr re x i i, (tick (sr re n x s i i)).peer) else C (1 - i) k) ∨ (C' = C ∧ t < L)) :
    Pl L d n t (i + 1) (xr re x i) (upd (sr re n x s i) i (tick (sr re n x s i i))) C' := by
  obtain ⟨h1, h2⟩ := h.re_ hi h0 hd re hre
  refine ⟨fun r hr => ?_, h2⟩
  have hT := h1 i hi
  rw [decide_eq_false (Nat.lt_irrefl i)] at hT
  have hT2 := hT.tick_ hd hn h0
  by_cases e : r = i
  · subst e
    rw [upd_same, decide_eq_true (Nat.lt_succ_self r)]
    have hb : decide (1 - r < r + 1) = decide (1 - r < r) := by rw [Bool.eq_iff_iff]; simp; omega
    rw [hb]
    rcases hC with rfl | ⟨rfl, _⟩
    · rw [upd_other _ _ (show r ≠ 1 - r by omega)]; exact hT2
    · exact hT2
  · have e1 : 1 - r = i := by omega
    have e2 : r = 1 - i := by omega
    have hD := h1 r hr
    rw [e1] at hD ⊢
    rw [upd_other _ _ e, decide_eq_true (Nat.lt_succ_self i)]
    rw [decide_eq_false (Nat.lt_irrefl i)] at hD
    have hb : decide (r < i + 1) = decide (r < i) := by rw [Bool.eq_iff_iff]; simp; omega
    rw [hb]
    rcases hC with rfl | ⟨rfl, hl⟩
    · rw [e2, upd_same, ← e2]
      refine hD.send fun hl => ?_
      have := (hT2.pee hl).1
      rw [this, e2]
    · exact hD.lose hl
theorem Pl.turn (h : Pl L d n t 2 x s C) : Ph L d n t 0 x s C := by
  refine ⟨fun r _ hr => ?_, fun r hr => absurd hr (by omega), fun r hr => ?_⟩
  · have := h.dir r hr
    rwa [decide_eq_true hr, decide_eq_true (show 1 - r < 2 by omega)] at this
  · have := h.xb r hr
    rw [decide_eq_true hr] at this
    simp [one] at this; omega
theorem Ph.turn (h : Ph L d n t 2 x s C) : Pl L d n (t + 1) 0 x s C := by
  refine ⟨fun r hr => ?_, fun r hr => ?_⟩
  · rw [decide_eq_false (by omega), decide_eq_false (by omega)]; exact h.neu r hr hr
  · have := h.xb r hr
    rw [decide_eq_false (by omega)]; simp [one]; omega
theorem Ph.hear (h : Ph L d n t i x s C) (hi : i < 2) (h0 : 0 ≤ t) (hd : 1 ≤ d) (ht : t ≤ 1000) {a b : Int} (hc : C i t = some (a, b)) : Ph L d n t (i + 1) x (upd s i (recv (s i) a b)) C := by
  refine ⟨fun r hr h2 => ?_, fun r hr h2 => ?_, h.xb⟩
  · rw [upd_other _ _ (by omega)]; exact h.old r (by omega) h2
  · by_cases e : r = i
    · subst e
      rw [upd_same]
      have := h.xb (1 - r) (by omega)
      exact (h.old r (Nat.le_refl _) h2).hear hd h0 (by omega) hc
    · rw [upd_other _ _ e]; exact h.neu r (by omega) h2
theorem Ph.deaf (h : Ph L d n t i x s C) (hi : i < 2) (h0 : 0 ≤ t) (hd : 1 ≤ d) (hc : C i t = none) : Ph L d n t (i + 1) x s C := by
  refine ⟨fun r hr h2 => h.old r (by omega) h2, fun r hr h2 => ?_, h.xb⟩
  by_cases e : r = i
  · subst e
    exact (h.old r (Nat.le_refl _) h2).deaf hd h0 hc
  · exact h.neu r (by omega) h2
theorem Pl.bounds (h : Pl L d n t i x s C) (h0 : 0 ≤ t) (r : Nat) (hr : r < 2) : 0 ≤ (s r).silent ∧ (s r).silent ≤ t + 1 ∧ 0 ≤ (s r).changes ∧ (s r).changes ≤ 2 * t + 1 ∧ (s r).mine = x r := by
  have h1 := h.dir r hr
  have h2 := h1.sil
  have h3 := h1.chg
  have h4 := one_bd (decide (r < i))
  exact ⟨by omega, by omega, by omega, by omega, h1.mine⟩
theorem Ph.bounds (h : Ph L d n t i x s C) (h0 : 0 ≤ t) (r : Nat) (hr : r < 2) : 0 ≤ (s r).changes ∧ (s r).changes ≤ 2 * t + 2 := by
  by_cases e : r < i
  · have h3 := (h.neu r e hr).chg
    simp [one] at h3; omega
  · have h3 := (h.old r (by omega) hr).chg
    simp [one] at h3; omega
/-- In the end. -/
theorem Ph.done (h : Ph L d n t 2 x s C) (ht : L + 2 * d + 2 ≤ t) (hd : 1 ≤ d) : (s 0).state = 2 ∧ (s 1).state = 2 ∧ (s 0).peer = x 1 ∧ (s 1).peer = x 0 := by
  have h0 := h.neu 0 (by omega) (by omega)
  have h1 := h.neu 1 (by omega) (by omega)
  exact ⟨h0.sta (by omega), h1.sta (by omega), (h0.pee (by omega)).1, (h1.pee (by omega)).1⟩
end
def encC (c : Chan) : Int → Option Value := fun k => (c k).map fun p => .agg #[.int .i64 p.1, .int .i64 p.2]
/-- How all of it lies in memory. -/
structure Mt (w0 : World) (bm bd bw : Nat) (x : Nat → Int) (b : Nat → Nat) (s : Nat → Sd) (c : Nat → Nat) (z : Nat → Nat) (C : Nat → Chan) (w : World) : Prop where
  mine : Blk w bm 37 #[.int .i64 (x 0), .int .i64 (x 1)]
  sds : Blk w bd 38 #[.pointer (some ⟨b 0, 0, none⟩), .pointer (some ⟨b 1, 0, none⟩)]
  way : Blk w bw 40 #[.map (some (c 0)), .map (some (c 1))]
  sd : ∀ r, r < 2 → Side w (b r) (s r)
  mp : ∀ r, r < 2 → MapI Try.prog 3 w (c r) (z r) (encC (C r))
  nb : b 0 ≠ b 1
  nc : c 0 ≠ c 1
  bel : Below w0.heap.size w0 w
  bm0 : w0.heap.size ≤ bm
  bd0 : w0.heap.size ≤ bd
  b0 : ∀ r, r < 2 → w0.heap.size ≤ b r
  c0 : ∀ r, r < 2 → w0.heap.size ≤ c r
section
variable {w0 w w' : World} {bm bd bw : Nat} {x : Nat → Int} {b : Nat → Nat} {s : Nat → Sd} {c z : Nat → Nat} {C : Nat → Chan} {i : Nat}
theorem two {P : Nat → Prop} (h0 : P 0) (h1 : P 1) : ∀ r, r < 2 → P r := fun r hr => by
  rcases (by omega : r = 0 ∨ r = 1) with rfl | rfl <;> assumption
theorem Mt.new_ (h : Mt w0 bm bd bw x b s c z C w) (hb : Below w.heap.size w w') : Mt w0 bm bd bw x b s c z C w' :=
  ⟨h.mine.new_ hb, h.sds.new_ hb, h.way.new_ hb, fun r hr => (h.sd r hr).new_ hb, fun r hr => MapAt.new_ (h.mp r hr) hb, h.nb, h.nc, join h.bel hb, h.bm0, h.bd0, h.b0, h.c0⟩
structure MtC (w : World) (bm bd bw : Nat) (x : Nat → Int) (b : Nat → Nat) (c : Nat → Nat) (i : Nat) : Prop where
  m : w.cell? ⟨bm, i, none⟩ = some (.int .i64 (x i))
  d : w.cell? ⟨bd, i, none⟩ = some (.pointer (some ⟨b i, 0, none⟩))
  y : w.cell? ⟨bw, i, none⟩ = some (.map (some (c i)))
  fm : w.frozen? ⟨bm, i, none⟩ = false
  fd : w.frozen? ⟨bd, i, none⟩ = false
  lm : bm < w.heap.size
  ld : bd < w.heap.size
  lw : bw < w.heap.size
theorem Mt.at_ (h : Mt w0 bm bd bw x b s c z C w) (i : Nat) (hi : i < 2) : MtC w bm bd bw x b c i := by
  rcases (by omega : i = 0 ∨ i = 1) with rfl | rfl
  · exact ⟨h.mine.cell 0 rfl, h.sds.cell 0 rfl, h.way.cell 0 rfl, h.mine.free 0, h.sds.free 0, h.mine.lt, h.sds.lt, h.way.lt⟩
  · exact ⟨h.mine.cell 1 rfl, h.sds.cell 1 rfl, h.way.cell 1 rfl, h.mine.free 1, h.sds.free 1, h.mine.lt, h.sds.lt, h.way.lt⟩
theorem Mt.far (h : Mt w0 bm bd bw x b s c z C w) {p : Addr} (u : Value) {t : TypeId} {cs : Array Value} (hp : Blk w p.block t cs) (h0 : w0.heap.size ≤ p.block) (h1 : t ≠ 37) (h2 : t ≠ 38) (h3 : t ≠ 40) (h4 : t ≠ 56) : Mt w0 bm bd bw x b s c z C (w.setCell p u) :=
  ⟨h.mine.far (Blk.ne_ h.mine hp h1.symm) u, h.sds.far (Blk.ne_ h.sds hp h2.symm) u, h.way.far (Blk.ne_ h.way hp h3.symm) u, fun r hr => (h.sd r hr).far (Blk.ne_ (h.sd r hr) hp h4.symm) u, fun r hr => MapAt.far (h.mp r hr) (fun e => MapAt.ne (h.mp r hr) hp e.symm) u, h.nb, h.nc, h.bel.setCell h0 u, h.bm0, h.bd0, h.b0, h.c0⟩
theorem Mt.setM (h : Mt w0 bm bd bw x b s c z C w) (hi : i < 2) (v : Int) : Mt w0 bm bd bw (upd x i v) b s c z C (w.setCell ⟨bm, i, none⟩ (.int .i64 v)) := by
  refine ⟨?_, h.sds.far (Blk.ne_ h.sds h.mine (by decide)) _, h.way.far (Blk.ne_ h.way h.mine (by decide)) _, fun r hr => (h.sd r hr).far (Blk.ne_ (h.sd r hr) h.mine (by decide)) _, fun r hr => MapAt.far (h.mp r hr) (fun e => MapAt.ne (h.mp r hr) h.mine e.symm) _, h.nb, h.nc, h.bel.setCell h.bm0 _, h.bm0, h.bd0, h.b0, h.c0⟩
  rcases (by omega : i = 0 ∨ i = 1) with rfl | rfl
  · exact h.mine.to 0 _ (by simp [upd])
  · exact h.mine.to 1 _ (by simp [upd])
/-- A new side is made and put in its place. -/
theorem Mt.setD (h : Mt w0 bm bd bw x b s c z C w) (hi : i < 2) (u : Sd) : Mt w0 bm bd bw x (upd b i w.heap.size) (upd s i u) c z C ((w.setCell ⟨bd, i, none⟩ (.pointer (some ⟨w.heap.size, 0, none⟩))).alloc (.cells (cells u) 56)) := by
  rw [← World.setCell_alloc_past _ _ _ _ h.sds.lt]
  have hb : Below w.heap.size w (w.alloc (.cells (cells u) 56)) := (Below.refl _ _).alloc (Nat.le_refl _) _
  have h' := h.new_ hb
  have hn : Side (w.alloc (.cells (cells u) 56)) w.heap.size u := Blk.new _ _ _
  have hlt := fun r hr => (h.sd r hr).lt
  refine ⟨h'.mine.far (Blk.ne_ h'.mine h'.sds (by decide)) _, ?_, h'.way.far (Blk.ne_ h'.way h'.sds (by decide)) _, fun r hr => ?_, fun r hr => MapAt.far (h'.mp r hr) (fun e => MapAt.ne (h'.mp r hr) h'.sds e.symm) _, ?_, h.nc, h'.bel.setCell h.bd0 _, h.bm0, h.bd0, fun r hr => ?_, h.c0⟩
  · rcases (by omega : i = 0 ∨ i = 1) with rfl | rfl
    · exact h'.sds.to 0 _ (by simp [upd])
    · exact h'.sds.to 1 _ (by simp [upd])
  · by_cases e : r = i
    · subst e; rw [upd_same, upd_same]; exact hn.far (Blk.ne_ hn h'.sds (by decide)) _
    · rw [upd_other _ _ e, upd_other _ _ e]; exact (h'.sd r hr).far (Blk.ne_ (h'.sd r hr) h'.sds (by decide)) _
  · have l0 := hlt 0 (by omega)
    have l1 := hlt 1 (by omega)
    rcases (by omega : i = 0 ∨ i = 1) with rfl | rfl
    · simp [upd]; omega
    · simp [upd]; omega
  · by_cases e : r = i
    · subst e; rw [upd_same]; exact h.bel.size
    · rw [upd_other _ _ e]; exact h.b0 r hr
/-- A method of a side has written into it. -/
theorem Mt.side (h : Mt w0 bm bd bw x b s c z C w) (hi : i < 2) {u : Sd} (hS : Side w' (b i) u) (hO : Only (b i) w w') : Mt w0 bm bd bw x b (upd s i u) c z C w' := by
  have hbi := h.sd i hi
  refine ⟨h.mine.only hO (Blk.ne_ h.mine hbi (by decide)), h.sds.only hO (Blk.ne_ h.sds hbi (by decide)), h.way.only hO (Blk.ne_ h.way hbi (by decide)), fun r hr => ?_, fun r hr => MapAt.only (h.mp r hr) hO (fun e => MapAt.ne (h.mp r hr) hbi e.symm), h.nb, h.nc, joinO h.bel hO (h.b0 i hi) (Nat.le_refl _), h.bm0, h.bd0, h.b0, h.c0⟩
  by_cases e : r = i
  · subst e; rw [upd_same]; exact hS
  · rw [upd_other _ _ e]
    refine (h.sd r hr).only hO (fun e2 => ?_)
    have := h.nb
    rcases (by omega : (r = 0 ∧ i = 1) ∨ (r = 1 ∧ i = 0)) with ⟨rfl, rfl⟩ | ⟨rfl, rfl⟩
    · exact this e2
    · exact this e2.symm
theorem Mt.map {j n' : Nat} {F : Chan} (h : Mt w0 bm bd bw x b s c z C w) (hj : j < 2) (hm : MapI Try.prog 3 w' (c j) n' (encC F)) (hg : w.grownBy w' (some (c j))) : Mt w0 bm bd bw x b s c (upd z j n') (upd C j F) w' := by
  have hne : ∀ {g : Nat} {t : TypeId} {cs : Array Value}, Blk w g t cs → some g ≠ some (c j) := fun hb e => by injection e with e; exact MapAt.ne (h.mp j hj) hb e
  refine ⟨h.mine.grown hg (hne h.mine), h.sds.grown hg (hne h.sds), h.way.grown hg (hne h.way), fun r hr => (h.sd r hr).grown hg (hne (h.sd r hr)), fun r hr => ?_, h.nb, h.nc, h.bel.grown hg h.bel.size (fun k hk => by injection hk with hk; subst hk; exact h.c0 j hj), h.bm0, h.bd0, h.b0, h.c0⟩
  by_cases e : r = j
  · subst e; rw [upd_same, upd_same]; exact hm
  · rw [upd_other _ _ e, upd_other _ _ e]
    refine MapAt.kept (h.mp r hr) hg (fun e2 => ?_)
    injection e2 with e2
    have := h.nc
    rcases (by omega : (r = 0 ∧ j = 1) ∨ (r = 1 ∧ j = 0)) with ⟨rfl, rfl⟩ | ⟨rfl, rfl⟩
    · exact this e2
    · exact this e2.symm
end
/-- While the two sides are made. -/
structure In (w0 : World) (bm bd : Nat) (p0 p1 : Value) (w : World) : Prop where
  mine : Blk w bm 37 #[.int .i64 10, .int .i64 20]
  sds : Blk w bd 38 #[p0, p1]
  bel : Below w0.heap.size w0 w
  bm0 : w0.heap.size ≤ bm
  bd0 : w0.heap.size ≤ bd
theorem set_size (w : World) (a : Addr) (v : Value) : (w.setCell a v).heap.size = w.heap.size := by simp [World.setCell]
theorem In.put0 {w0 w : World} {bm bd : Nat} {p0 p1 : Value} (h : In w0 bm bd p0 p1 w) (u : Sd) : In w0 bm bd (.pointer (some ⟨w.heap.size, 0, none⟩)) p1 ((w.setCell ⟨bd, 0, none⟩ (.pointer (some ⟨w.heap.size, 0, none⟩))).alloc (.cells (cells u) 56)) ∧ Side ((w.setCell ⟨bd, 0, none⟩ (.pointer (some ⟨w.heap.size, 0, none⟩))).alloc (.cells (cells u) 56)) w.heap.size u := by
  have hn := Blk.new (w.setCell ⟨bd, 0, none⟩ (.pointer (some ⟨w.heap.size, 0, none⟩))) 56 (cells u)
  rw [set_size] at hn
  exact ⟨⟨(h.mine.far (Blk.ne_ h.mine h.sds (by decide)) _).alloc _, (h.sds.to 0 _ rfl).alloc _, (h.bel.setCell h.bd0 _).alloc (by rw [set_size]; exact h.bel.size) _, h.bm0, h.bd0⟩, hn⟩
theorem In.put1 {w0 w : World} {bm bd b0 : Nat} {p0 p1 : Value} {v : Sd} (h : In w0 bm bd p0 p1 w) (hv : Side w b0 v) (u : Sd) : In w0 bm bd p0 (.pointer (some ⟨w.heap.size, 0, none⟩)) ((w.setCell ⟨bd, 1, none⟩ (.pointer (some ⟨w.heap.size, 0, none⟩))).alloc (.cells (cells u) 56)) ∧ Side ((w.setCell ⟨bd, 1, none⟩ (.pointer (some ⟨w.heap.size, 0, none⟩))).alloc (.cells (cells u) 56)) w.heap.size u ∧ Side ((w.setCell ⟨bd, 1, none⟩ (.pointer (some ⟨w.heap.size, 0, none⟩))).alloc (.cells (cells u) 56)) b0 v := by
  have hn := Blk.new (w.setCell ⟨bd, 1, none⟩ (.pointer (some ⟨w.heap.size, 0, none⟩))) 56 (cells u)
  rw [set_size] at hn
  exact ⟨⟨(h.mine.far (Blk.ne_ h.mine h.sds (by decide)) _).alloc _, (h.sds.to 1 _ rfl).alloc _, (h.bel.setCell h.bd0 _).alloc (by rw [set_size]; exact h.bel.size) _, h.bm0, h.bd0⟩, hn, (hv.far (Blk.ne_ hv h.sds (by decide)) _).alloc _⟩
def both {α : Type} (a b : α) : Nat → α := fun r => if r = 0 then a else b
theorem Mt.start {w0 w : World} {bm bd b0 b1 : Nat} {u v : Sd} (h : In w0 bm bd (.pointer (some ⟨b0, 0, none⟩)) (.pointer (some ⟨b1, 0, none⟩)) w) (hu : Side w b0 u) (hv : Side w b1 v) (hne : b0 ≠ b1) (h0 : w0.heap.size ≤ b0) (h1 : w0.heap.size ≤ b1) :
    Mt w0 bm bd (w.heap.size + 2) (both 10 20) (both b0 b1) (both u v) (both w.heap.size (w.heap.size + 1)) (fun _ => 0) (fun _ _ => none) (((w.alloc (.map #[] 0)).alloc (.map #[] 0)).alloc (.cells #[.map (some w.heap.size), .map (some (w.heap.size + 1))] 40)) := by
  have hb : Below w.heap.size w (((w.alloc (.map #[] 0)).alloc (.map #[] 0)).alloc (.cells #[.map (some w.heap.size), .map (some (w.heap.size + 1))] 40)) := (((Below.refl _ _).alloc (Nat.le_refl _) _).alloc (by simp) _).alloc (by simp; omega) _
  have hz := h.bel.size
  have m1 : MapI Try.prog 3 (((w.alloc (.map #[] 0)).alloc (.map #[] 0)).alloc (.cells #[.map (some w.heap.size), .map (some (w.heap.size + 1))] 40)) w.heap.size 0 (encC (fun _ => none)) := MapAt.alloc (MapAt.alloc (MapI.made w Try.prog 3) _) _
  have m2 : MapI Try.prog 3 (((w.alloc (.map #[] 0)).alloc (.map #[] 0)).alloc (.cells #[.map (some w.heap.size), .map (some (w.heap.size + 1))] 40)) (w.heap.size + 1) 0 (encC (fun _ => none)) := by
    have := MapI.made (w.alloc (.map #[] 0)) Try.prog 3
    rw [World.size_alloc] at this
    exact MapAt.alloc this _
  refine ⟨h.mine.new_ hb, h.sds.new_ hb, ?_, two (hu.new_ hb) (hv.new_ hb), two m1 m2, hne, by simp [both], join h.bel hb, h.bm0, h.bd0, two h0 h1, two hz (by simp [both]; omega)⟩
  have := Blk.new ((w.alloc (.map #[] 0)).alloc (.map #[] 0)) 40 #[.map (some w.heap.size), .map (some (w.heap.size + 1))]
  rw [World.size_alloc, World.size_alloc] at this
  exact this
theorem Pl.start {L d n : Int} (hL : 0 ≤ L) (hd : 1 ≤ d) : Pl L d n 0 0 (both 10 20) (both (new 10 n) (new 20 n)) (fun _ _ => none) :=
  ⟨two (Dir.start L d n 10 20 hL hd (by omega)) (Dir.start L d n 20 10 hL hd (by omega)), two (by simp [both, one]) (by simp [both, one])⟩
theorem encC_set (c : Chan) (k : Int) (p : Int × Int) : (fun y => if y = k then some (Value.agg #[.int .i64 p.1, .int .i64 p.2]) else encC c y) = encC (fun y => if y = k then some p else c y) := by
  funext y
  unfold encC
  by_cases e : y = k
  · simp [e]
  · simp [e]
theorem still_tail {P : Program} {id : Nat} {Q : Exit → Act → World → Prop} {a : Act} {w : World} {l : List Oper} (n : Nat) (hm : P.follows .mixedOrders = true) (hB : Region.lexTailB .any l.toArray n = true)
    (h : wpStill P l.toArray w.drew (fun a' => wpList P l.toArray Q (l.drop n) a' w.drew) (l.take n) a) : (Code.region id l.toArray true).wp P Q a w := wp_region_still_tail n hm hB h
end Go.Proofs.Ytaonnglopajkcaa
