/- For every list of calls the statement HelloVersion returns true: Version changes exactly if a state or a neighbor changes. No condition. -/
import Derived.Test.YtkbnacboianjkaaBase
import Derived.Test.YtkbnacboianjkaaActs
import Derived.Test.YtkbnacboianjkaaPlainV
import Derived.Test.YtkbnacboianjkaaMid
import Derived.Test.YtkbnacboianjkaaNeq
namespace Go.Proofs.Ytkbnacboianjkaa
open Go.ChangeShapes Go.WideShapes Go.ChangeAt Go.RowKit
set_option linter.unusedVariables false
set_option linter.unusedSimpArgs false
/-- As it was, but for draws. -/
def Drewn (w w' : World) : Prop := ∃ j, w' = w.drewN j
theorem Drewn.refl (w : World) : Drewn w w := ⟨0, rfl⟩
theorem Drewn.more {w w' : World} (h : Drewn w w') (n : Nat) : Drewn w (w'.drewN n) := by
  obtain ⟨j, rfl⟩ := h
  exact ⟨j + n, by rw [World.drewN_drewN]⟩
theorem Drewn.cell {w w' : World} (h : Drewn w w') (a : Addr) : w'.cell? a = w.cell? a := by
  obtain ⟨j, rfl⟩ := h; rfl
theorem Drewn.size {w w' : World} (h : Drewn w w') : w'.heap.size = w.heap.size := by
  obtain ⟨j, rfl⟩ := h; rfl
theorem Drewn.table {w w' : World} (h : Drewn w w') {b g : Nat} {t : Tb} (k : Table w b g t) : Table w' b g t := by
  obtain ⟨j, rfl⟩ := h; exact k.drewN j
theorem Drewn.below {w w' : World} (h : Drewn w w') {B : Nat} {w0 : World} (k : Below B w0 w) : Below B w0 w' := by
  obtain ⟨j, rfl⟩ := h; exact dN k j
theorem bd_rec2 {n v : Nat} {t : Tb} (h : Bd n v t) (i : Int) (m : Msg) : Bd (n + 1) (v + 8) (recv t i m) := bd_mono (bd_recv h i m) (by omega) (by omega)
structure Goes (w : World) (B : Nat) (k : Nat) (t : Tb) (wr : World) : Prop where
  tab : Table wr (B + 1) B t
  bd : Bd k (8 * k) t
  len : t.ports.length = 3
  sev : Sev t
  below : Below w.heap.size w wr
theorem Mid.drewN {w W : World} {B X : Nat} {t : Tb} {a p q : Array Value} (h : Mid w B X t a p q W) (n : Nat) : Mid w B X t a p q (W.drewN n) := ⟨h.tab.drewN n, h.a.drewN n, h.p.drewN n, h.q.drewN n, dN h.below n⟩
theorem neq_no {w : World} {t t' : Tb} {k : Int} (h : sgAt t' k = sgAt t k) : (binOp .neq 60 (.agg #[.int .i64 (stateAt t' k), .int .i64 (nbNode t' k), .int .i64 (nbPort t' k), .int .i64 0]) (.agg #[.int .i64 (stateAt t k), .int .i64 (nbNode t k), .int .i64 (nbPort t k), .int .i64 0])).run Try.prog w = .ok (.bool false) w := by
  simp only [sgAt, Prod.mk.injEq] at h
  rw [neq60, h.1, h.2.1, h.2.2]; simp
theorem neq_yes {w : World} {t t' : Tb} {k : Int} (h : ¬ sgAt t' k = sgAt t k) : (binOp .neq 60 (.agg #[.int .i64 (stateAt t' k), .int .i64 (nbNode t' k), .int .i64 (nbPort t' k), .int .i64 0]) (.agg #[.int .i64 (stateAt t k), .int .i64 (nbNode t k), .int .i64 (nbPort t k), .int .i64 0])).run Try.prog w = .ok (.bool true) w := by
  have e : (stateAt t' k == stateAt t k && (nbNode t' k == nbNode t k && nbPort t' k == nbPort t k)) = false := by
    rw [Bool.eq_false_iff]; intro e; simp at e; exact h (by simp [sgAt, e])
  rw [neq60, e]; rfl
theorem sg_same {t t' : Tb} {k : Int} (h : sgAt t' k = sgAt t k) : stateAt t' k = stateAt t k ∧ nbNode t' k = nbNode t k ∧ nbPort t' k = nbPort t k := by
  simpa [sgAt] using h
set_option maxRecDepth 100000 in
set_option maxHeartbeats 8000000 in
theorem walkHelloVersion (a0 : Option Addr) (len0 cap0 : Nat) (w : World) (w0 : IsRows w 6 IsAct a0 len0 cap0) :
    Calls Try.prog 10 #[.slice a0 len0 cap0] w fun e w' => e = .returned (.bool true) ∧ Below w.heap.size w w' := by
  obtain ⟨hcap, hmax, hrow⟩ := w0
  unfold maxLen at hmax
  by_cases hl : 40 < len0
  · clear hrow
    go_enter Try.func10, Try.ntmps10
    go_wp2_with fail
    refine (awake_c _).mono ?_
    rintro e wa ⟨rfl, hba⟩
    have HBA := hid hba
    clear hba
    go_wp2_with fail
    go_ret
    exact ⟨rfl, HBA.out⟩
  · have hl2 : len0 ≤ 40 := by omega
    have HR := Kept.mk hrow
    clear hl hrow
    go_enter Try.func10, Try.ntmps10
    go_wp2_with fail
    refine (awake_c _).mono ?_
    rintro e wa ⟨rfl, hba⟩
    have HBA := hid hba
    clear hba
    go_wp2_with fail
    refine (new_c 0 5 3 2 4 _ (by decide)).mono ?_
    rintro e wb ⟨rfl, hT, hbb, -⟩
    have HG : Kept (Goes w wa.heap.size 0 (new 0 5 3 2 4) wb) := ⟨⟨hT, bd_new 0 5 3 2 4 (by omega) (by omega) (by omega), rfl, sev_new _ _ _ _ _, join HBA.out hbb⟩⟩
    have hB := HBA.out.size
    clear hT hbb HBA
    generalize wa.heap.size = B at *
    go_wp2_with fail
    go_loopw [36] (fun v36 wr => ∃ (k : Nat) (t : Tb), k ≤ len0 ∧ v36 = .int .i64 k ∧ Kept (Goes w B k t wr)) (fun v36 _ => len0 - (intOf v36).toNat)
    case atStart => exact ⟨0, _, by omega, rfl, HG⟩
    case round =>
      obtain ⟨k, t, hk, rfl, HG'⟩ := hrel
      clear HG
      by_cases hlt : k < len0
      · obtain ⟨b, off, rfl, hbl, hcs⟩ := HR.out (by omega)
        obtain ⟨cs, ⟨kind, port, node, inc, mp, heard, rfl⟩, hcell⟩ := hcs k hlt
        have hbr : b < wr.heap.size := Nat.lt_of_lt_of_le hbl HG'.out.below.size
        have c0 := (HG'.out.below.cell (p := ⟨b, off + k * 6, none⟩) hbl).trans (hcell 0 _ rfl)
        have c1 := (HG'.out.below.cell (p := ⟨b, off + k * 6 + 1, none⟩) hbl).trans (hcell 1 _ rfl)
        have c2 := (HG'.out.below.cell (p := ⟨b, off + k * 6 + 2, none⟩) hbl).trans (hcell 2 _ rfl)
        have c3 := (HG'.out.below.cell (p := ⟨b, off + k * 6 + 3, none⟩) hbl).trans (hcell 3 _ rfl)
        have c4 := (HG'.out.below.cell (p := ⟨b, off + k * 6 + 4, none⟩) hbl).trans (hcell 4 _ rfl)
        have c5 := (HG'.out.below.cell (p := ⟨b, off + k * 6 + 5, none⟩) hbl).trans (hcell 5 _ rfl)
        clear hcs hcell
        have hB3 := HG'.out.tab.tab.lt
        go_wp2_with fail
        have HM0 : Kept (Mid w B wr.heap.size t #[.int .i64 kind, .int .i64 port, .int .i64 node, .int .i64 inc, .int .i64 mp, .int .i64 heard] (P0 t) (P0 t) (((wr.alloc (.cells #[.int .i64 kind, .int .i64 port, .int .i64 node, .int .i64 inc, .int .i64 mp, .int .i64 heard] 41)).alloc (.cells #[.int .i64 0, .int .i64 0, .int .i64 0, .int .i64 0, .int .i64 0, .int .i64 0, .int .i64 0, .int .i64 0, .int .i64 0, .int .i64 0, .int .i64 0, .int .i64 0] 61)).alloc (.cells #[.int .i64 0, .int .i64 0, .int .i64 0, .int .i64 0, .int .i64 0, .int .i64 0, .int .i64 0, .int .i64 0, .int .i64 0, .int .i64 0, .int .i64 0, .int .i64 0] 61))) := ⟨((HG'.out.tab.alloc _).alloc _).alloc _, ((Blk.new wr 41 _).alloc _).alloc _, by have h := (Blk.new (wr.alloc (.cells #[.int .i64 kind, .int .i64 port, .int .i64 node, .int .i64 inc, .int .i64 mp, .int .i64 heard] 41)) 61 (P0 t)).alloc (.cells #[.int .i64 0, .int .i64 0, .int .i64 0, .int .i64 0, .int .i64 0, .int .i64 0, .int .i64 0, .int .i64 0, .int .i64 0, .int .i64 0, .int .i64 0, .int .i64 0] 61); rw [show (wr.alloc (.cells #[.int .i64 kind, .int .i64 port, .int .i64 node, .int .i64 inc, .int .i64 mp, .int .i64 heard] 41)).heap.size = wr.heap.size + 1 from by simp] at h; exact h, by have h := Blk.new ((wr.alloc (.cells #[.int .i64 kind, .int .i64 port, .int .i64 node, .int .i64 inc, .int .i64 mp, .int .i64 heard] 41)).alloc (.cells #[.int .i64 0, .int .i64 0, .int .i64 0, .int .i64 0, .int .i64 0, .int .i64 0, .int .i64 0, .int .i64 0, .int .i64 0, .int .i64 0, .int .i64 0, .int .i64 0] 61)) 61 (P0 t); rw [show ((wr.alloc (.cells #[.int .i64 kind, .int .i64 port, .int .i64 node, .int .i64 inc, .int .i64 mp, .int .i64 heard] 41)).alloc (.cells #[.int .i64 0, .int .i64 0, .int .i64 0, .int .i64 0, .int .i64 0, .int .i64 0, .int .i64 0, .int .i64 0, .int .i64 0, .int .i64 0, .int .i64 0, .int .i64 0] 61)).heap.size = wr.heap.size + 1 + 1 from by simp] at h; exact h, ((HG'.out.below.alloc HG'.out.below.size _).alloc (by have := HG'.out.below.size; simp; omega) _).alloc (by have := HG'.out.below.size; simp; omega) _⟩
        obtain ⟨W0, hW0⟩ : ∃ W0, W0 = (((wr.alloc (.cells #[.int .i64 kind, .int .i64 port, .int .i64 node, .int .i64 inc, .int .i64 mp, .int .i64 heard] 41)).alloc (.cells #[.int .i64 0, .int .i64 0, .int .i64 0, .int .i64 0, .int .i64 0, .int .i64 0, .int .i64 0, .int .i64 0, .int .i64 0, .int .i64 0, .int .i64 0, .int .i64 0] 61)).alloc (.cells #[.int .i64 0, .int .i64 0, .int .i64 0, .int .i64 0, .int .i64 0, .int .i64 0, .int .i64 0, .int .i64 0, .int .i64 0, .int .i64 0, .int .i64 0, .int .i64 0] 61)) := ⟨_, rfl⟩
        rw [← hW0] at HM0
        refine wp_loop_rounds 4 ?_
        rw [rounds_succ]
        rw [← hW0]
        have HBD := Kept.mk HG'.out.bd
        have HLN := Kept.mk HG'.out.len
        have HSV := Kept.mk HG'.out.sev
        have hver0 := HBD.out.fit.ver0
        have hver1 := HBD.out.ver
        have hwB := HG'.out.below.size
        obtain ⟨X, hX⟩ : ∃ X, X = wr.heap.size := ⟨_, rfl⟩
        rw [← hX] at HM0 hB3 ⊢
        clear hW0 HG' c0 c1 c2 c3 c4 c5 hbr hX
        go_wp2_with fail
        refine (nb_c t 0 _ (B + 1) B HM0.out.tab).mono ?_
        rintro e w1 ⟨rfl, HM0n, rfl⟩
        go_wp2_with fail
        refine (state_c t _ _ (B + 1) B (HM0.out.tab.drewN HM0n)).mono ?_
        rintro e w1 ⟨rfl, rfl⟩
        have HM0h := HM0.out.p.lt
        have cz0 := HM0.out.p.cell 0 (v := .int .i64 0) rfl
        have cz1 := HM0.out.p.cell 1 (v := .int .i64 0) rfl
        have cz2 := HM0.out.p.cell 2 (v := .int .i64 0) rfl
        have cz3 := HM0.out.p.cell 3 (v := .int .i64 0) rfl
        have fz0 := HM0.out.p.free 0
        have fz1 := HM0.out.p.free 1
        have fz2 := HM0.out.p.free 2
        have fz3 := HM0.out.p.free 3
        go_wp2_with fail
        have HM1 := Kept.mk (HM0.out.p0 hB3 hB HM0n)
        obtain ⟨W1, hW⟩ : ∃ W', W' = (((((W0.drewN HM0n).setCell ⟨X + 1, 0, none⟩ (.int .i64 (stateAt t 0))).setCell ⟨X + 1, 1, none⟩ (.int .i64 (nbNode t 0))).setCell ⟨X + 1, 2, none⟩ (.int .i64 (nbPort t 0))).setCell ⟨X + 1, 3, none⟩ (.int .i64 (0))) := ⟨_, rfl⟩
        rw [← hW] at HM1 ⊢
        clear hW HM0h cz0 cz1 cz2 cz3 fz0 fz1 fz2 fz3
        clear HM0
        rw [rounds_succ]
        go_wp2_with fail
        refine (nb_c t 1 _ (B + 1) B HM1.out.tab).mono ?_
        rintro e w1 ⟨rfl, HM1n, rfl⟩
        go_wp2_with fail
        refine (state_c t _ _ (B + 1) B (HM1.out.tab.drewN HM1n)).mono ?_
        rintro e w1 ⟨rfl, rfl⟩
        have HM1h := HM1.out.p.lt
        have cz0 := HM1.out.p.cell 4 (v := .int .i64 0) rfl
        have cz1 := HM1.out.p.cell 5 (v := .int .i64 0) rfl
        have cz2 := HM1.out.p.cell 6 (v := .int .i64 0) rfl
        have cz3 := HM1.out.p.cell 7 (v := .int .i64 0) rfl
        have fz0 := HM1.out.p.free 4
        have fz1 := HM1.out.p.free 5
        have fz2 := HM1.out.p.free 6
        have fz3 := HM1.out.p.free 7
        go_wp2_with fail
        have HM2 := Kept.mk (HM1.out.p1 hB3 hB HM1n)
        obtain ⟨W2, hW⟩ : ∃ W', W' = (((((W1.drewN HM1n).setCell ⟨X + 1, 4, none⟩ (.int .i64 (stateAt t 1))).setCell ⟨X + 1, 5, none⟩ (.int .i64 (nbNode t 1))).setCell ⟨X + 1, 6, none⟩ (.int .i64 (nbPort t 1))).setCell ⟨X + 1, 7, none⟩ (.int .i64 (0))) := ⟨_, rfl⟩
        rw [← hW] at HM2 ⊢
        clear hW HM1h cz0 cz1 cz2 cz3 fz0 fz1 fz2 fz3
        clear HM1
        rw [rounds_succ]
        go_wp2_with fail
        refine (nb_c t 2 _ (B + 1) B HM2.out.tab).mono ?_
        rintro e w1 ⟨rfl, HM2n, rfl⟩
        go_wp2_with fail
        refine (state_c t _ _ (B + 1) B (HM2.out.tab.drewN HM2n)).mono ?_
        rintro e w1 ⟨rfl, rfl⟩
        have HM2h := HM2.out.p.lt
        have cz0 := HM2.out.p.cell 8 (v := .int .i64 0) rfl
        have cz1 := HM2.out.p.cell 9 (v := .int .i64 0) rfl
        have cz2 := HM2.out.p.cell 10 (v := .int .i64 0) rfl
        have cz3 := HM2.out.p.cell 11 (v := .int .i64 0) rfl
        have fz0 := HM2.out.p.free 8
        have fz1 := HM2.out.p.free 9
        have fz2 := HM2.out.p.free 10
        have fz3 := HM2.out.p.free 11
        go_wp2_with fail
        have HM3 := Kept.mk (HM2.out.p2 hB3 hB HM2n)
        obtain ⟨W3, hW⟩ : ∃ W', W' = (((((W2.drewN HM2n).setCell ⟨X + 1, 8, none⟩ (.int .i64 (stateAt t 2))).setCell ⟨X + 1, 9, none⟩ (.int .i64 (nbNode t 2))).setCell ⟨X + 1, 10, none⟩ (.int .i64 (nbPort t 2))).setCell ⟨X + 1, 11, none⟩ (.int .i64 (0))) := ⟨_, rfl⟩
        rw [← hW] at HM3 ⊢
        clear hW HM2h cz0 cz1 cz2 cz3 fz0 fz1 fz2 fz3
        clear HM2
        rw [rounds_succ]
        go_wp2_with fail
        refine (version_c t _ (B + 1) B HM3.out.tab).mono ?_
        rintro e w1 ⟨rfl, rfl⟩
        have hx0 := HM3.out.a.cell 0 (v := .int .i64 kind) rfl
        have hx1 := HM3.out.a.cell 1 (v := .int .i64 port) rfl
        have hx2 := HM3.out.a.cell 2 (v := .int .i64 node) rfl
        have hx3 := HM3.out.a.cell 3 (v := .int .i64 inc) rfl
        have hx4 := HM3.out.a.cell 4 (v := .int .i64 mp) rfl
        have hx5 := HM3.out.a.cell 5 (v := .int .i64 heard) rfl
        have hxf := HM3.out.a.free 3
        have hXl := HM3.out.a.lt
        by_cases hkind : kind = 0
        · subst hkind
          go_wp2_with fail
          refine (recv_c t port ⟨node, 7, mp, heard⟩ _ (B + 1) B (HM3.out.tab.far (by simp; omega) (by simp; omega) _) hver0 (by omega)).mono ?_
          rintro e V0 ⟨rfl, hT4, hO4⟩
          have HQ0 : Kept (Mid w B X (recv t port ⟨node, 7, mp, heard⟩) _ (P3 t) (P0 (recv t port ⟨node, 7, mp, heard⟩)) V0) := ⟨hT4, (HM3.out.a.set_ 3 (.int .i64 7)).only hO4 (by rintro (h | h) <;> omega), (HM3.out.p.far (by simp) _).only hO4 (by rintro (h | h) <;> omega), (HM3.out.q.far (by simp; omega) _).only hO4 (by rintro (h | h) <;> omega), (HM3.out.below.setCell (by simp; omega) _).trans (hO4.below (B := w.heap.size) (by rintro j (h | h) <;> omega) (by have := HM3.out.below.size; simpa using this))⟩
          have HCN := Kept.mk (recv_counts HLN.out HSV.out port (m := ⟨node, 7, mp, heard⟩) rfl)
          have HG6 : Kept (∀ wx, Table wx (B + 1) B (recv t port ⟨node, 7, mp, heard⟩) → Below w.heap.size w wx → Goes w B (k + 1) (recv t port ⟨node, 7, mp, heard⟩) wx) := ⟨fun wx h1 h2 => ⟨h1, bd_rec2 HBD.out _ _, by rw [recv_len]; exact HLN.out, sev_recv HSV.out _ rfl, h2⟩⟩
          generalize recv t port ⟨node, 7, mp, heard⟩ = t1 at *
          clear hT4 hO4 hx0 hx1 hx2 hx3 hx4 hx5 hxf hXl
          go_wp2_with fail
          refine wp_loop_rounds 4 ?_
          rw [rounds_succ]
          go_wp2_with fail
          refine (nb_c t1 0 _ (B + 1) B HQ0.out.tab).mono ?_
          rintro e w1 ⟨rfl, HQ0n, rfl⟩
          go_wp2_with fail
          refine (state_c t1 _ _ (B + 1) B (HQ0.out.tab.drewN HQ0n)).mono ?_
          rintro e w1 ⟨rfl, rfl⟩
          have HQ0h := HQ0.out.q.lt
          have cz0 := HQ0.out.q.cell 0 (v := .int .i64 0) rfl
          have cz1 := HQ0.out.q.cell 1 (v := .int .i64 0) rfl
          have cz2 := HQ0.out.q.cell 2 (v := .int .i64 0) rfl
          have cz3 := HQ0.out.q.cell 3 (v := .int .i64 0) rfl
          have fz0 := HQ0.out.q.free 0
          have fz1 := HQ0.out.q.free 1
          have fz2 := HQ0.out.q.free 2
          have fz3 := HQ0.out.q.free 3
          go_wp2_with fail
          have HQ1 := Kept.mk (HQ0.out.q0 hB3 hB HQ0n)
          obtain ⟨V1, hW⟩ : ∃ W', W' = (((((V0.drewN HQ0n).setCell ⟨X + 1 + 1, 0, none⟩ (.int .i64 (stateAt t1 0))).setCell ⟨X + 1 + 1, 1, none⟩ (.int .i64 (nbNode t1 0))).setCell ⟨X + 1 + 1, 2, none⟩ (.int .i64 (nbPort t1 0))).setCell ⟨X + 1 + 1, 3, none⟩ (.int .i64 (0))) := ⟨_, rfl⟩
          rw [← hW] at HQ1 ⊢
          clear hW HQ0h cz0 cz1 cz2 cz3 fz0 fz1 fz2 fz3
          have cp0 := HQ1.out.p.cell 0 (v := .int .i64 (stateAt t 0)) rfl
          have cq0 := HQ1.out.q.cell 0 (v := .int .i64 (stateAt t1 0)) rfl
          have cp1 := HQ1.out.p.cell 1 (v := .int .i64 (nbNode t 0)) rfl
          have cq1 := HQ1.out.q.cell 1 (v := .int .i64 (nbNode t1 0)) rfl
          have cp2 := HQ1.out.p.cell 2 (v := .int .i64 (nbPort t 0)) rfl
          have cq2 := HQ1.out.q.cell 2 (v := .int .i64 (nbPort t1 0)) rfl
          have cp3 := HQ1.out.p.cell 3 (v := .int .i64 0) rfl
          have cq3 := HQ1.out.q.cell 3 (v := .int .i64 0) rfl
          have hpl := HQ1.out.p.lt
          have hql := HQ1.out.q.lt
          by_cases hs0 : sgAt t1 0 = sgAt t 0
          · have HD0 : Kept (dfAt t t1 0 = 0) := ⟨if_pos hs0⟩
            have hnq := fun wx => neq_no (w := wx) hs0
            clear hs0
            go_wp2_with fail
            go_quiet (fail)
            clear hnq cp0 cp1 cp2 cp3 cq0 cq1 cq2 cq3
            have HR0 := Kept.mk (HQ1.out.drewN nq)
            obtain ⟨U0, hW⟩ : ∃ W', W' = V1.drewN nq := ⟨_, rfl⟩
            rw [← hW] at HR0 ⊢
            clear hW hpl hql
            go_wp2_with fail
            rw [rounds_succ]
            go_wp2_with fail
            refine (nb_c t1 1 _ (B + 1) B HR0.out.tab).mono ?_
            rintro e w1 ⟨rfl, HR0n, rfl⟩
            go_wp2_with fail
            refine (state_c t1 _ _ (B + 1) B (HR0.out.tab.drewN HR0n)).mono ?_
            rintro e w1 ⟨rfl, rfl⟩
            have HR0h := HR0.out.q.lt
            have cz0 := HR0.out.q.cell 4 (v := .int .i64 0) rfl
            have cz1 := HR0.out.q.cell 5 (v := .int .i64 0) rfl
            have cz2 := HR0.out.q.cell 6 (v := .int .i64 0) rfl
            have cz3 := HR0.out.q.cell 7 (v := .int .i64 0) rfl
            have fz0 := HR0.out.q.free 4
            have fz1 := HR0.out.q.free 5
            have fz2 := HR0.out.q.free 6
            have fz3 := HR0.out.q.free 7
            go_wp2_with fail
            have HQ2 := Kept.mk (HR0.out.q1 hB3 hB HR0n)
            obtain ⟨V2, hW⟩ : ∃ W', W' = (((((U0.drewN HR0n).setCell ⟨X + 1 + 1, 4, none⟩ (.int .i64 (stateAt t1 1))).setCell ⟨X + 1 + 1, 5, none⟩ (.int .i64 (nbNode t1 1))).setCell ⟨X + 1 + 1, 6, none⟩ (.int .i64 (nbPort t1 1))).setCell ⟨X + 1 + 1, 7, none⟩ (.int .i64 (0))) := ⟨_, rfl⟩
            rw [← hW] at HQ2 ⊢
            clear hW HR0h cz0 cz1 cz2 cz3 fz0 fz1 fz2 fz3
            have cp0 := HQ2.out.p.cell 4 (v := .int .i64 (stateAt t 1)) rfl
            have cq0 := HQ2.out.q.cell 4 (v := .int .i64 (stateAt t1 1)) rfl
            have cp1 := HQ2.out.p.cell 5 (v := .int .i64 (nbNode t 1)) rfl
            have cq1 := HQ2.out.q.cell 5 (v := .int .i64 (nbNode t1 1)) rfl
            have cp2 := HQ2.out.p.cell 6 (v := .int .i64 (nbPort t 1)) rfl
            have cq2 := HQ2.out.q.cell 6 (v := .int .i64 (nbPort t1 1)) rfl
            have cp3 := HQ2.out.p.cell 7 (v := .int .i64 0) rfl
            have cq3 := HQ2.out.q.cell 7 (v := .int .i64 0) rfl
            have hpl := HQ2.out.p.lt
            have hql := HQ2.out.q.lt
            by_cases hs1 : sgAt t1 1 = sgAt t 1
            · have HD1 : Kept (dfAt t t1 1 = 0) := ⟨if_pos hs1⟩
              have hnq := fun wx => neq_no (w := wx) hs1
              clear hs1
              go_wp2_with fail
              go_quiet (fail)
              clear hnq cp0 cp1 cp2 cp3 cq0 cq1 cq2 cq3
              have HR1 := Kept.mk (HQ2.out.drewN nq)
              obtain ⟨U1, hW⟩ : ∃ W', W' = V2.drewN nq := ⟨_, rfl⟩
              rw [← hW] at HR1 ⊢
              clear hW hpl hql
              go_wp2_with fail
              rw [rounds_succ]
              go_wp2_with fail
              refine (nb_c t1 2 _ (B + 1) B HR1.out.tab).mono ?_
              rintro e w1 ⟨rfl, HR1n, rfl⟩
              go_wp2_with fail
              refine (state_c t1 _ _ (B + 1) B (HR1.out.tab.drewN HR1n)).mono ?_
              rintro e w1 ⟨rfl, rfl⟩
              have HR1h := HR1.out.q.lt
              have cz0 := HR1.out.q.cell 8 (v := .int .i64 0) rfl
              have cz1 := HR1.out.q.cell 9 (v := .int .i64 0) rfl
              have cz2 := HR1.out.q.cell 10 (v := .int .i64 0) rfl
              have cz3 := HR1.out.q.cell 11 (v := .int .i64 0) rfl
              have fz0 := HR1.out.q.free 8
              have fz1 := HR1.out.q.free 9
              have fz2 := HR1.out.q.free 10
              have fz3 := HR1.out.q.free 11
              go_wp2_with fail
              have HQ3 := Kept.mk (HR1.out.q2 hB3 hB HR1n)
              obtain ⟨V3, hW⟩ : ∃ W', W' = (((((U1.drewN HR1n).setCell ⟨X + 1 + 1, 8, none⟩ (.int .i64 (stateAt t1 2))).setCell ⟨X + 1 + 1, 9, none⟩ (.int .i64 (nbNode t1 2))).setCell ⟨X + 1 + 1, 10, none⟩ (.int .i64 (nbPort t1 2))).setCell ⟨X + 1 + 1, 11, none⟩ (.int .i64 (0))) := ⟨_, rfl⟩
              rw [← hW] at HQ3 ⊢
              clear hW HR1h cz0 cz1 cz2 cz3 fz0 fz1 fz2 fz3
              have cp0 := HQ3.out.p.cell 8 (v := .int .i64 (stateAt t 2)) rfl
              have cq0 := HQ3.out.q.cell 8 (v := .int .i64 (stateAt t1 2)) rfl
              have cp1 := HQ3.out.p.cell 9 (v := .int .i64 (nbNode t 2)) rfl
              have cq1 := HQ3.out.q.cell 9 (v := .int .i64 (nbNode t1 2)) rfl
              have cp2 := HQ3.out.p.cell 10 (v := .int .i64 (nbPort t 2)) rfl
              have cq2 := HQ3.out.q.cell 10 (v := .int .i64 (nbPort t1 2)) rfl
              have cp3 := HQ3.out.p.cell 11 (v := .int .i64 0) rfl
              have cq3 := HQ3.out.q.cell 11 (v := .int .i64 0) rfl
              have hpl := HQ3.out.p.lt
              have hql := HQ3.out.q.lt
              by_cases hs2 : sgAt t1 2 = sgAt t 2
              · have HD2 : Kept (dfAt t t1 2 = 0) := ⟨if_pos hs2⟩
                have hnq := fun wx => neq_no (w := wx) hs2
                clear hs2
                go_wp2_with fail
                go_quiet (fail)
                clear hnq cp0 cp1 cp2 cp3 cq0 cq1 cq2 cq3
                have HR2 := Kept.mk (HQ3.out.drewN nq)
                obtain ⟨U2, hW⟩ : ∃ W', W' = V3.drewN nq := ⟨_, rfl⟩
                rw [← hW] at HR2 ⊢
                clear hW hpl hql
                go_wp2_with fail
                rw [rounds_succ]
                go_wp2_with fail
                refine (version_c t1 _ (B + 1) B HR2.out.tab).mono ?_
                rintro e w1 ⟨rfl, rfl⟩
                have hve := HCN.out
                rw [HD0.out, HD1.out, HD2.out] at hve
                go_wp2_with fail
                go_roundw
                case rel => exact ⟨k + 1, t1, by omega, by go_num, ⟨HG6.out _ HR2.out.tab HR2.out.below⟩⟩
                case measure => simp [intOf]; omega
              · have HD2 : Kept (dfAt t t1 2 = 1) := ⟨if_neg hs2⟩
                have hnq := fun wx => neq_yes (w := wx) hs2
                clear hs2
                go_wp2_with fail
                go_quiet (fail)
                clear hnq cp0 cp1 cp2 cp3 cq0 cq1 cq2 cq3
                have HR2 := Kept.mk (HQ3.out.drewN nq)
                obtain ⟨U2, hW⟩ : ∃ W', W' = V3.drewN nq := ⟨_, rfl⟩
                rw [← hW] at HR2 ⊢
                clear hW hpl hql
                go_wp2_with fail
                rw [rounds_succ]
                go_wp2_with fail
                refine (version_c t1 _ (B + 1) B HR2.out.tab).mono ?_
                rintro e w1 ⟨rfl, rfl⟩
                have hve := HCN.out
                rw [HD0.out, HD1.out, HD2.out] at hve
                go_wp2_with fail
                go_roundw
                case rel => exact ⟨k + 1, t1, by omega, by go_num, ⟨HG6.out _ HR2.out.tab HR2.out.below⟩⟩
                case measure => simp [intOf]; omega
            · have HD1 : Kept (dfAt t t1 1 = 1) := ⟨if_neg hs1⟩
              have hnq := fun wx => neq_yes (w := wx) hs1
              clear hs1
              go_wp2_with fail
              go_quiet (fail)
              clear hnq cp0 cp1 cp2 cp3 cq0 cq1 cq2 cq3
              have HR1 := Kept.mk (HQ2.out.drewN nq)
              obtain ⟨U1, hW⟩ : ∃ W', W' = V2.drewN nq := ⟨_, rfl⟩
              rw [← hW] at HR1 ⊢
              clear hW hpl hql
              go_wp2_with fail
              rw [rounds_succ]
              go_wp2_with fail
              refine (nb_c t1 2 _ (B + 1) B HR1.out.tab).mono ?_
              rintro e w1 ⟨rfl, HR1n, rfl⟩
              go_wp2_with fail
              refine (state_c t1 _ _ (B + 1) B (HR1.out.tab.drewN HR1n)).mono ?_
              rintro e w1 ⟨rfl, rfl⟩
              have HR1h := HR1.out.q.lt
              have cz0 := HR1.out.q.cell 8 (v := .int .i64 0) rfl
              have cz1 := HR1.out.q.cell 9 (v := .int .i64 0) rfl
              have cz2 := HR1.out.q.cell 10 (v := .int .i64 0) rfl
              have cz3 := HR1.out.q.cell 11 (v := .int .i64 0) rfl
              have fz0 := HR1.out.q.free 8
              have fz1 := HR1.out.q.free 9
              have fz2 := HR1.out.q.free 10
              have fz3 := HR1.out.q.free 11
              go_wp2_with fail
              have HQ3 := Kept.mk (HR1.out.q2 hB3 hB HR1n)
              obtain ⟨V3, hW⟩ : ∃ W', W' = (((((U1.drewN HR1n).setCell ⟨X + 1 + 1, 8, none⟩ (.int .i64 (stateAt t1 2))).setCell ⟨X + 1 + 1, 9, none⟩ (.int .i64 (nbNode t1 2))).setCell ⟨X + 1 + 1, 10, none⟩ (.int .i64 (nbPort t1 2))).setCell ⟨X + 1 + 1, 11, none⟩ (.int .i64 (0))) := ⟨_, rfl⟩
              rw [← hW] at HQ3 ⊢
              clear hW HR1h cz0 cz1 cz2 cz3 fz0 fz1 fz2 fz3
              have cp0 := HQ3.out.p.cell 8 (v := .int .i64 (stateAt t 2)) rfl
              have cq0 := HQ3.out.q.cell 8 (v := .int .i64 (stateAt t1 2)) rfl
              have cp1 := HQ3.out.p.cell 9 (v := .int .i64 (nbNode t 2)) rfl
              have cq1 := HQ3.out.q.cell 9 (v := .int .i64 (nbNode t1 2)) rfl
              have cp2 := HQ3.out.p.cell 10 (v := .int .i64 (nbPort t 2)) rfl
              have cq2 := HQ3.out.q.cell 10 (v := .int .i64 (nbPort t1 2)) rfl
              have cp3 := HQ3.out.p.cell 11 (v := .int .i64 0) rfl
              have cq3 := HQ3.out.q.cell 11 (v := .int .i64 0) rfl
              have hpl := HQ3.out.p.lt
              have hql := HQ3.out.q.lt
              by_cases hs2 : sgAt t1 2 = sgAt t 2
              · have HD2 : Kept (dfAt t t1 2 = 0) := ⟨if_pos hs2⟩
                have hnq := fun wx => neq_no (w := wx) hs2
                clear hs2
                go_wp2_with fail
                go_quiet (fail)
                clear hnq cp0 cp1 cp2 cp3 cq0 cq1 cq2 cq3
                have HR2 := Kept.mk (HQ3.out.drewN nq)
                obtain ⟨U2, hW⟩ : ∃ W', W' = V3.drewN nq := ⟨_, rfl⟩
                rw [← hW] at HR2 ⊢
                clear hW hpl hql
                go_wp2_with fail
                rw [rounds_succ]
                go_wp2_with fail
                refine (version_c t1 _ (B + 1) B HR2.out.tab).mono ?_
                rintro e w1 ⟨rfl, rfl⟩
                have hve := HCN.out
                rw [HD0.out, HD1.out, HD2.out] at hve
                go_wp2_with fail
                go_roundw
                case rel => exact ⟨k + 1, t1, by omega, by go_num, ⟨HG6.out _ HR2.out.tab HR2.out.below⟩⟩
                case measure => simp [intOf]; omega
              · have HD2 : Kept (dfAt t t1 2 = 1) := ⟨if_neg hs2⟩
                have hnq := fun wx => neq_yes (w := wx) hs2
                clear hs2
                go_wp2_with fail
                go_quiet (fail)
                clear hnq cp0 cp1 cp2 cp3 cq0 cq1 cq2 cq3
                have HR2 := Kept.mk (HQ3.out.drewN nq)
                obtain ⟨U2, hW⟩ : ∃ W', W' = V3.drewN nq := ⟨_, rfl⟩
                rw [← hW] at HR2 ⊢
                clear hW hpl hql
                go_wp2_with fail
                rw [rounds_succ]
                go_wp2_with fail
                refine (version_c t1 _ (B + 1) B HR2.out.tab).mono ?_
                rintro e w1 ⟨rfl, rfl⟩
                have hve := HCN.out
                rw [HD0.out, HD1.out, HD2.out] at hve
                go_wp2_with fail
                go_roundw
                case rel => exact ⟨k + 1, t1, by omega, by go_num, ⟨HG6.out _ HR2.out.tab HR2.out.below⟩⟩
                case measure => simp [intOf]; omega
          · have HD0 : Kept (dfAt t t1 0 = 1) := ⟨if_neg hs0⟩
            have hnq := fun wx => neq_yes (w := wx) hs0
            clear hs0
            go_wp2_with fail
            go_quiet (fail)
            clear hnq cp0 cp1 cp2 cp3 cq0 cq1 cq2 cq3
            have HR0 := Kept.mk (HQ1.out.drewN nq)
            obtain ⟨U0, hW⟩ : ∃ W', W' = V1.drewN nq := ⟨_, rfl⟩
            rw [← hW] at HR0 ⊢
            clear hW hpl hql
            go_wp2_with fail
            rw [rounds_succ]
            go_wp2_with fail
            refine (nb_c t1 1 _ (B + 1) B HR0.out.tab).mono ?_
            rintro e w1 ⟨rfl, HR0n, rfl⟩
            go_wp2_with fail
            refine (state_c t1 _ _ (B + 1) B (HR0.out.tab.drewN HR0n)).mono ?_
            rintro e w1 ⟨rfl, rfl⟩
            have HR0h := HR0.out.q.lt
            have cz0 := HR0.out.q.cell 4 (v := .int .i64 0) rfl
            have cz1 := HR0.out.q.cell 5 (v := .int .i64 0) rfl
            have cz2 := HR0.out.q.cell 6 (v := .int .i64 0) rfl
            have cz3 := HR0.out.q.cell 7 (v := .int .i64 0) rfl
            have fz0 := HR0.out.q.free 4
            have fz1 := HR0.out.q.free 5
            have fz2 := HR0.out.q.free 6
            have fz3 := HR0.out.q.free 7
            go_wp2_with fail
            have HQ2 := Kept.mk (HR0.out.q1 hB3 hB HR0n)
            obtain ⟨V2, hW⟩ : ∃ W', W' = (((((U0.drewN HR0n).setCell ⟨X + 1 + 1, 4, none⟩ (.int .i64 (stateAt t1 1))).setCell ⟨X + 1 + 1, 5, none⟩ (.int .i64 (nbNode t1 1))).setCell ⟨X + 1 + 1, 6, none⟩ (.int .i64 (nbPort t1 1))).setCell ⟨X + 1 + 1, 7, none⟩ (.int .i64 (0))) := ⟨_, rfl⟩
            rw [← hW] at HQ2 ⊢
            clear hW HR0h cz0 cz1 cz2 cz3 fz0 fz1 fz2 fz3
            have cp0 := HQ2.out.p.cell 4 (v := .int .i64 (stateAt t 1)) rfl
            have cq0 := HQ2.out.q.cell 4 (v := .int .i64 (stateAt t1 1)) rfl
            have cp1 := HQ2.out.p.cell 5 (v := .int .i64 (nbNode t 1)) rfl
            have cq1 := HQ2.out.q.cell 5 (v := .int .i64 (nbNode t1 1)) rfl
            have cp2 := HQ2.out.p.cell 6 (v := .int .i64 (nbPort t 1)) rfl
            have cq2 := HQ2.out.q.cell 6 (v := .int .i64 (nbPort t1 1)) rfl
            have cp3 := HQ2.out.p.cell 7 (v := .int .i64 0) rfl
            have cq3 := HQ2.out.q.cell 7 (v := .int .i64 0) rfl
            have hpl := HQ2.out.p.lt
            have hql := HQ2.out.q.lt
            by_cases hs1 : sgAt t1 1 = sgAt t 1
            · have HD1 : Kept (dfAt t t1 1 = 0) := ⟨if_pos hs1⟩
              have hnq := fun wx => neq_no (w := wx) hs1
              clear hs1
              go_wp2_with fail
              go_quiet (fail)
              clear hnq cp0 cp1 cp2 cp3 cq0 cq1 cq2 cq3
              have HR1 := Kept.mk (HQ2.out.drewN nq)
              obtain ⟨U1, hW⟩ : ∃ W', W' = V2.drewN nq := ⟨_, rfl⟩
              rw [← hW] at HR1 ⊢
              clear hW hpl hql
              go_wp2_with fail
              rw [rounds_succ]
              go_wp2_with fail
              refine (nb_c t1 2 _ (B + 1) B HR1.out.tab).mono ?_
              rintro e w1 ⟨rfl, HR1n, rfl⟩
              go_wp2_with fail
              refine (state_c t1 _ _ (B + 1) B (HR1.out.tab.drewN HR1n)).mono ?_
              rintro e w1 ⟨rfl, rfl⟩
              have HR1h := HR1.out.q.lt
              have cz0 := HR1.out.q.cell 8 (v := .int .i64 0) rfl
              have cz1 := HR1.out.q.cell 9 (v := .int .i64 0) rfl
              have cz2 := HR1.out.q.cell 10 (v := .int .i64 0) rfl
              have cz3 := HR1.out.q.cell 11 (v := .int .i64 0) rfl
              have fz0 := HR1.out.q.free 8
              have fz1 := HR1.out.q.free 9
              have fz2 := HR1.out.q.free 10
              have fz3 := HR1.out.q.free 11
              go_wp2_with fail
              have HQ3 := Kept.mk (HR1.out.q2 hB3 hB HR1n)
              obtain ⟨V3, hW⟩ : ∃ W', W' = (((((U1.drewN HR1n).setCell ⟨X + 1 + 1, 8, none⟩ (.int .i64 (stateAt t1 2))).setCell ⟨X + 1 + 1, 9, none⟩ (.int .i64 (nbNode t1 2))).setCell ⟨X + 1 + 1, 10, none⟩ (.int .i64 (nbPort t1 2))).setCell ⟨X + 1 + 1, 11, none⟩ (.int .i64 (0))) := ⟨_, rfl⟩
              rw [← hW] at HQ3 ⊢
              clear hW HR1h cz0 cz1 cz2 cz3 fz0 fz1 fz2 fz3
              have cp0 := HQ3.out.p.cell 8 (v := .int .i64 (stateAt t 2)) rfl
              have cq0 := HQ3.out.q.cell 8 (v := .int .i64 (stateAt t1 2)) rfl
              have cp1 := HQ3.out.p.cell 9 (v := .int .i64 (nbNode t 2)) rfl
              have cq1 := HQ3.out.q.cell 9 (v := .int .i64 (nbNode t1 2)) rfl
              have cp2 := HQ3.out.p.cell 10 (v := .int .i64 (nbPort t 2)) rfl
              have cq2 := HQ3.out.q.cell 10 (v := .int .i64 (nbPort t1 2)) rfl
              have cp3 := HQ3.out.p.cell 11 (v := .int .i64 0) rfl
              have cq3 := HQ3.out.q.cell 11 (v := .int .i64 0) rfl
              have hpl := HQ3.out.p.lt
              have hql := HQ3.out.q.lt
              by_cases hs2 : sgAt t1 2 = sgAt t 2
              · have HD2 : Kept (dfAt t t1 2 = 0) := ⟨if_pos hs2⟩
                have hnq := fun wx => neq_no (w := wx) hs2
                clear hs2
                go_wp2_with fail
                go_quiet (fail)
                clear hnq cp0 cp1 cp2 cp3 cq0 cq1 cq2 cq3
                have HR2 := Kept.mk (HQ3.out.drewN nq)
                obtain ⟨U2, hW⟩ : ∃ W', W' = V3.drewN nq := ⟨_, rfl⟩
                rw [← hW] at HR2 ⊢
                clear hW hpl hql
                go_wp2_with fail
                rw [rounds_succ]
                go_wp2_with fail
                refine (version_c t1 _ (B + 1) B HR2.out.tab).mono ?_
                rintro e w1 ⟨rfl, rfl⟩
                have hve := HCN.out
                rw [HD0.out, HD1.out, HD2.out] at hve
                go_wp2_with fail
                go_roundw
                case rel => exact ⟨k + 1, t1, by omega, by go_num, ⟨HG6.out _ HR2.out.tab HR2.out.below⟩⟩
                case measure => simp [intOf]; omega
              · have HD2 : Kept (dfAt t t1 2 = 1) := ⟨if_neg hs2⟩
                have hnq := fun wx => neq_yes (w := wx) hs2
                clear hs2
                go_wp2_with fail
                go_quiet (fail)
                clear hnq cp0 cp1 cp2 cp3 cq0 cq1 cq2 cq3
                have HR2 := Kept.mk (HQ3.out.drewN nq)
                obtain ⟨U2, hW⟩ : ∃ W', W' = V3.drewN nq := ⟨_, rfl⟩
                rw [← hW] at HR2 ⊢
                clear hW hpl hql
                go_wp2_with fail
                rw [rounds_succ]
                go_wp2_with fail
                refine (version_c t1 _ (B + 1) B HR2.out.tab).mono ?_
                rintro e w1 ⟨rfl, rfl⟩
                have hve := HCN.out
                rw [HD0.out, HD1.out, HD2.out] at hve
                go_wp2_with fail
                go_roundw
                case rel => exact ⟨k + 1, t1, by omega, by go_num, ⟨HG6.out _ HR2.out.tab HR2.out.below⟩⟩
                case measure => simp [intOf]; omega
            · have HD1 : Kept (dfAt t t1 1 = 1) := ⟨if_neg hs1⟩
              have hnq := fun wx => neq_yes (w := wx) hs1
              clear hs1
              go_wp2_with fail
              go_quiet (fail)
              clear hnq cp0 cp1 cp2 cp3 cq0 cq1 cq2 cq3
              have HR1 := Kept.mk (HQ2.out.drewN nq)
              obtain ⟨U1, hW⟩ : ∃ W', W' = V2.drewN nq := ⟨_, rfl⟩
              rw [← hW] at HR1 ⊢
              clear hW hpl hql
              go_wp2_with fail
              rw [rounds_succ]
              go_wp2_with fail
              refine (nb_c t1 2 _ (B + 1) B HR1.out.tab).mono ?_
              rintro e w1 ⟨rfl, HR1n, rfl⟩
              go_wp2_with fail
              refine (state_c t1 _ _ (B + 1) B (HR1.out.tab.drewN HR1n)).mono ?_
              rintro e w1 ⟨rfl, rfl⟩
              have HR1h := HR1.out.q.lt
              have cz0 := HR1.out.q.cell 8 (v := .int .i64 0) rfl
              have cz1 := HR1.out.q.cell 9 (v := .int .i64 0) rfl
              have cz2 := HR1.out.q.cell 10 (v := .int .i64 0) rfl
              have cz3 := HR1.out.q.cell 11 (v := .int .i64 0) rfl
              have fz0 := HR1.out.q.free 8
              have fz1 := HR1.out.q.free 9
              have fz2 := HR1.out.q.free 10
              have fz3 := HR1.out.q.free 11
              go_wp2_with fail
              have HQ3 := Kept.mk (HR1.out.q2 hB3 hB HR1n)
              obtain ⟨V3, hW⟩ : ∃ W', W' = (((((U1.drewN HR1n).setCell ⟨X + 1 + 1, 8, none⟩ (.int .i64 (stateAt t1 2))).setCell ⟨X + 1 + 1, 9, none⟩ (.int .i64 (nbNode t1 2))).setCell ⟨X + 1 + 1, 10, none⟩ (.int .i64 (nbPort t1 2))).setCell ⟨X + 1 + 1, 11, none⟩ (.int .i64 (0))) := ⟨_, rfl⟩
              rw [← hW] at HQ3 ⊢
              clear hW HR1h cz0 cz1 cz2 cz3 fz0 fz1 fz2 fz3
              have cp0 := HQ3.out.p.cell 8 (v := .int .i64 (stateAt t 2)) rfl
              have cq0 := HQ3.out.q.cell 8 (v := .int .i64 (stateAt t1 2)) rfl
              have cp1 := HQ3.out.p.cell 9 (v := .int .i64 (nbNode t 2)) rfl
              have cq1 := HQ3.out.q.cell 9 (v := .int .i64 (nbNode t1 2)) rfl
              have cp2 := HQ3.out.p.cell 10 (v := .int .i64 (nbPort t 2)) rfl
              have cq2 := HQ3.out.q.cell 10 (v := .int .i64 (nbPort t1 2)) rfl
              have cp3 := HQ3.out.p.cell 11 (v := .int .i64 0) rfl
              have cq3 := HQ3.out.q.cell 11 (v := .int .i64 0) rfl
              have hpl := HQ3.out.p.lt
              have hql := HQ3.out.q.lt
              by_cases hs2 : sgAt t1 2 = sgAt t 2
              · have HD2 : Kept (dfAt t t1 2 = 0) := ⟨if_pos hs2⟩
                have hnq := fun wx => neq_no (w := wx) hs2
                clear hs2
                go_wp2_with fail
                go_quiet (fail)
                clear hnq cp0 cp1 cp2 cp3 cq0 cq1 cq2 cq3
                have HR2 := Kept.mk (HQ3.out.drewN nq)
                obtain ⟨U2, hW⟩ : ∃ W', W' = V3.drewN nq := ⟨_, rfl⟩
                rw [← hW] at HR2 ⊢
                clear hW hpl hql
                go_wp2_with fail
                rw [rounds_succ]
                go_wp2_with fail
                refine (version_c t1 _ (B + 1) B HR2.out.tab).mono ?_
                rintro e w1 ⟨rfl, rfl⟩
                have hve := HCN.out
                rw [HD0.out, HD1.out, HD2.out] at hve
                go_wp2_with fail
                go_roundw
                case rel => exact ⟨k + 1, t1, by omega, by go_num, ⟨HG6.out _ HR2.out.tab HR2.out.below⟩⟩
                case measure => simp [intOf]; omega
              · have HD2 : Kept (dfAt t t1 2 = 1) := ⟨if_neg hs2⟩
                have hnq := fun wx => neq_yes (w := wx) hs2
                clear hs2
                go_wp2_with fail
                go_quiet (fail)
                clear hnq cp0 cp1 cp2 cp3 cq0 cq1 cq2 cq3
                have HR2 := Kept.mk (HQ3.out.drewN nq)
                obtain ⟨U2, hW⟩ : ∃ W', W' = V3.drewN nq := ⟨_, rfl⟩
                rw [← hW] at HR2 ⊢
                clear hW hpl hql
                go_wp2_with fail
                rw [rounds_succ]
                go_wp2_with fail
                refine (version_c t1 _ (B + 1) B HR2.out.tab).mono ?_
                rintro e w1 ⟨rfl, rfl⟩
                have hve := HCN.out
                rw [HD0.out, HD1.out, HD2.out] at hve
                go_wp2_with fail
                go_roundw
                case rel => exact ⟨k + 1, t1, by omega, by go_num, ⟨HG6.out _ HR2.out.tab HR2.out.below⟩⟩
                case measure => simp [intOf]; omega
        · have hk1 : (kind != 0) = true := by simp [hkind]
          go_wp2_with fail
          refine (tick_c t _ (B + 1) B HM3.out.tab HBD.out.fit (by have := HBD.out.ticks; omega) (by have := HBD.out.ver; omega)).mono ?_
          rintro e V0 ⟨v, rfl, hT4, -, hO4⟩
          have HQ0 : Kept (Mid w B X (tick t) _ (P3 t) (P0 (tick t)) V0) := ⟨hT4, HM3.out.a.only hO4 (by rintro (h | h) <;> omega), HM3.out.p.only hO4 (by rintro (h | h) <;> omega), HM3.out.q.only hO4 (by rintro (h | h) <;> omega), HM3.out.below.trans (hO4.below (B := w.heap.size) (by rintro j (h | h) <;> omega) HM3.out.below.size)⟩
          have HCN := Kept.mk (tick_counts HLN.out)
          have HG6 : Kept (∀ wx, Table wx (B + 1) B (tick t) → Below w.heap.size w wx → Goes w B (k + 1) (tick t) wx) := ⟨fun wx h1 h2 => ⟨h1, bd_tick HBD.out (by omega), by rw [tick_len]; exact HLN.out, sev_tick HSV.out, h2⟩⟩
          generalize tick t = t1 at *
          clear hT4 hO4 hx0 hx1 hx2 hx3 hx4 hx5 hxf hXl
          go_wp2_with fail
          refine wp_loop_rounds 4 ?_
          rw [rounds_succ]
          go_wp2_with fail
          refine (nb_c t1 0 _ (B + 1) B HQ0.out.tab).mono ?_
          rintro e w1 ⟨rfl, HQ0n, rfl⟩
          go_wp2_with fail
          refine (state_c t1 _ _ (B + 1) B (HQ0.out.tab.drewN HQ0n)).mono ?_
          rintro e w1 ⟨rfl, rfl⟩
          have HQ0h := HQ0.out.q.lt
          have cz0 := HQ0.out.q.cell 0 (v := .int .i64 0) rfl
          have cz1 := HQ0.out.q.cell 1 (v := .int .i64 0) rfl
          have cz2 := HQ0.out.q.cell 2 (v := .int .i64 0) rfl
          have cz3 := HQ0.out.q.cell 3 (v := .int .i64 0) rfl
          have fz0 := HQ0.out.q.free 0
          have fz1 := HQ0.out.q.free 1
          have fz2 := HQ0.out.q.free 2
          have fz3 := HQ0.out.q.free 3
          go_wp2_with fail
          have HQ1 := Kept.mk (HQ0.out.q0 hB3 hB HQ0n)
          obtain ⟨V1, hW⟩ : ∃ W', W' = (((((V0.drewN HQ0n).setCell ⟨X + 1 + 1, 0, none⟩ (.int .i64 (stateAt t1 0))).setCell ⟨X + 1 + 1, 1, none⟩ (.int .i64 (nbNode t1 0))).setCell ⟨X + 1 + 1, 2, none⟩ (.int .i64 (nbPort t1 0))).setCell ⟨X + 1 + 1, 3, none⟩ (.int .i64 (0))) := ⟨_, rfl⟩
          rw [← hW] at HQ1 ⊢
          clear hW HQ0h cz0 cz1 cz2 cz3 fz0 fz1 fz2 fz3
          have cp0 := HQ1.out.p.cell 0 (v := .int .i64 (stateAt t 0)) rfl
          have cq0 := HQ1.out.q.cell 0 (v := .int .i64 (stateAt t1 0)) rfl
          have cp1 := HQ1.out.p.cell 1 (v := .int .i64 (nbNode t 0)) rfl
          have cq1 := HQ1.out.q.cell 1 (v := .int .i64 (nbNode t1 0)) rfl
          have cp2 := HQ1.out.p.cell 2 (v := .int .i64 (nbPort t 0)) rfl
          have cq2 := HQ1.out.q.cell 2 (v := .int .i64 (nbPort t1 0)) rfl
          have cp3 := HQ1.out.p.cell 3 (v := .int .i64 0) rfl
          have cq3 := HQ1.out.q.cell 3 (v := .int .i64 0) rfl
          have hpl := HQ1.out.p.lt
          have hql := HQ1.out.q.lt
          by_cases hs0 : sgAt t1 0 = sgAt t 0
          · have HD0 : Kept (dfAt t t1 0 = 0) := ⟨if_pos hs0⟩
            have hnq := fun wx => neq_no (w := wx) hs0
            clear hs0
            go_wp2_with fail
            go_quiet (fail)
            clear hnq cp0 cp1 cp2 cp3 cq0 cq1 cq2 cq3
            have HR0 := Kept.mk (HQ1.out.drewN nq)
            obtain ⟨U0, hW⟩ : ∃ W', W' = V1.drewN nq := ⟨_, rfl⟩
            rw [← hW] at HR0 ⊢
            clear hW hpl hql
            go_wp2_with fail
            rw [rounds_succ]
            go_wp2_with fail
            refine (nb_c t1 1 _ (B + 1) B HR0.out.tab).mono ?_
            rintro e w1 ⟨rfl, HR0n, rfl⟩
            go_wp2_with fail
            refine (state_c t1 _ _ (B + 1) B (HR0.out.tab.drewN HR0n)).mono ?_
            rintro e w1 ⟨rfl, rfl⟩
            have HR0h := HR0.out.q.lt
            have cz0 := HR0.out.q.cell 4 (v := .int .i64 0) rfl
            have cz1 := HR0.out.q.cell 5 (v := .int .i64 0) rfl
            have cz2 := HR0.out.q.cell 6 (v := .int .i64 0) rfl
            have cz3 := HR0.out.q.cell 7 (v := .int .i64 0) rfl
            have fz0 := HR0.out.q.free 4
            have fz1 := HR0.out.q.free 5
            have fz2 := HR0.out.q.free 6
            have fz3 := HR0.out.q.free 7
            go_wp2_with fail
            have HQ2 := Kept.mk (HR0.out.q1 hB3 hB HR0n)
            obtain ⟨V2, hW⟩ : ∃ W', W' = (((((U0.drewN HR0n).setCell ⟨X + 1 + 1, 4, none⟩ (.int .i64 (stateAt t1 1))).setCell ⟨X + 1 + 1, 5, none⟩ (.int .i64 (nbNode t1 1))).setCell ⟨X + 1 + 1, 6, none⟩ (.int .i64 (nbPort t1 1))).setCell ⟨X + 1 + 1, 7, none⟩ (.int .i64 (0))) := ⟨_, rfl⟩
            rw [← hW] at HQ2 ⊢
            clear hW HR0h cz0 cz1 cz2 cz3 fz0 fz1 fz2 fz3
            have cp0 := HQ2.out.p.cell 4 (v := .int .i64 (stateAt t 1)) rfl
            have cq0 := HQ2.out.q.cell 4 (v := .int .i64 (stateAt t1 1)) rfl
            have cp1 := HQ2.out.p.cell 5 (v := .int .i64 (nbNode t 1)) rfl
            have cq1 := HQ2.out.q.cell 5 (v := .int .i64 (nbNode t1 1)) rfl
            have cp2 := HQ2.out.p.cell 6 (v := .int .i64 (nbPort t 1)) rfl
            have cq2 := HQ2.out.q.cell 6 (v := .int .i64 (nbPort t1 1)) rfl
            have cp3 := HQ2.out.p.cell 7 (v := .int .i64 0) rfl
            have cq3 := HQ2.out.q.cell 7 (v := .int .i64 0) rfl
            have hpl := HQ2.out.p.lt
            have hql := HQ2.out.q.lt
            by_cases hs1 : sgAt t1 1 = sgAt t 1
            · have HD1 : Kept (dfAt t t1 1 = 0) := ⟨if_pos hs1⟩
              have hnq := fun wx => neq_no (w := wx) hs1
              clear hs1
              go_wp2_with fail
              go_quiet (fail)
              clear hnq cp0 cp1 cp2 cp3 cq0 cq1 cq2 cq3
              have HR1 := Kept.mk (HQ2.out.drewN nq)
              obtain ⟨U1, hW⟩ : ∃ W', W' = V2.drewN nq := ⟨_, rfl⟩
              rw [← hW] at HR1 ⊢
              clear hW hpl hql
              go_wp2_with fail
              rw [rounds_succ]
              go_wp2_with fail
              refine (nb_c t1 2 _ (B + 1) B HR1.out.tab).mono ?_
              rintro e w1 ⟨rfl, HR1n, rfl⟩
              go_wp2_with fail
              refine (state_c t1 _ _ (B + 1) B (HR1.out.tab.drewN HR1n)).mono ?_
              rintro e w1 ⟨rfl, rfl⟩
              have HR1h := HR1.out.q.lt
              have cz0 := HR1.out.q.cell 8 (v := .int .i64 0) rfl
              have cz1 := HR1.out.q.cell 9 (v := .int .i64 0) rfl
              have cz2 := HR1.out.q.cell 10 (v := .int .i64 0) rfl
              have cz3 := HR1.out.q.cell 11 (v := .int .i64 0) rfl
              have fz0 := HR1.out.q.free 8
              have fz1 := HR1.out.q.free 9
              have fz2 := HR1.out.q.free 10
              have fz3 := HR1.out.q.free 11
              go_wp2_with fail
              have HQ3 := Kept.mk (HR1.out.q2 hB3 hB HR1n)
              obtain ⟨V3, hW⟩ : ∃ W', W' = (((((U1.drewN HR1n).setCell ⟨X + 1 + 1, 8, none⟩ (.int .i64 (stateAt t1 2))).setCell ⟨X + 1 + 1, 9, none⟩ (.int .i64 (nbNode t1 2))).setCell ⟨X + 1 + 1, 10, none⟩ (.int .i64 (nbPort t1 2))).setCell ⟨X + 1 + 1, 11, none⟩ (.int .i64 (0))) := ⟨_, rfl⟩
              rw [← hW] at HQ3 ⊢
              clear hW HR1h cz0 cz1 cz2 cz3 fz0 fz1 fz2 fz3
              have cp0 := HQ3.out.p.cell 8 (v := .int .i64 (stateAt t 2)) rfl
              have cq0 := HQ3.out.q.cell 8 (v := .int .i64 (stateAt t1 2)) rfl
              have cp1 := HQ3.out.p.cell 9 (v := .int .i64 (nbNode t 2)) rfl
              have cq1 := HQ3.out.q.cell 9 (v := .int .i64 (nbNode t1 2)) rfl
              have cp2 := HQ3.out.p.cell 10 (v := .int .i64 (nbPort t 2)) rfl
              have cq2 := HQ3.out.q.cell 10 (v := .int .i64 (nbPort t1 2)) rfl
              have cp3 := HQ3.out.p.cell 11 (v := .int .i64 0) rfl
              have cq3 := HQ3.out.q.cell 11 (v := .int .i64 0) rfl
              have hpl := HQ3.out.p.lt
              have hql := HQ3.out.q.lt
              by_cases hs2 : sgAt t1 2 = sgAt t 2
              · have HD2 : Kept (dfAt t t1 2 = 0) := ⟨if_pos hs2⟩
                have hnq := fun wx => neq_no (w := wx) hs2
                clear hs2
                go_wp2_with fail
                go_quiet (fail)
                clear hnq cp0 cp1 cp2 cp3 cq0 cq1 cq2 cq3
                have HR2 := Kept.mk (HQ3.out.drewN nq)
                obtain ⟨U2, hW⟩ : ∃ W', W' = V3.drewN nq := ⟨_, rfl⟩
                rw [← hW] at HR2 ⊢
                clear hW hpl hql
                go_wp2_with fail
                rw [rounds_succ]
                go_wp2_with fail
                refine (version_c t1 _ (B + 1) B HR2.out.tab).mono ?_
                rintro e w1 ⟨rfl, rfl⟩
                have hve := HCN.out
                rw [HD0.out, HD1.out, HD2.out] at hve
                go_wp2_with fail
                go_roundw
                case rel => exact ⟨k + 1, t1, by omega, by go_num, ⟨HG6.out _ HR2.out.tab HR2.out.below⟩⟩
                case measure => simp [intOf]; omega
              · have HD2 : Kept (dfAt t t1 2 = 1) := ⟨if_neg hs2⟩
                have hnq := fun wx => neq_yes (w := wx) hs2
                clear hs2
                go_wp2_with fail
                go_quiet (fail)
                clear hnq cp0 cp1 cp2 cp3 cq0 cq1 cq2 cq3
                have HR2 := Kept.mk (HQ3.out.drewN nq)
                obtain ⟨U2, hW⟩ : ∃ W', W' = V3.drewN nq := ⟨_, rfl⟩
                rw [← hW] at HR2 ⊢
                clear hW hpl hql
                go_wp2_with fail
                rw [rounds_succ]
                go_wp2_with fail
                refine (version_c t1 _ (B + 1) B HR2.out.tab).mono ?_
                rintro e w1 ⟨rfl, rfl⟩
                have hve := HCN.out
                rw [HD0.out, HD1.out, HD2.out] at hve
                go_wp2_with fail
                go_roundw
                case rel => exact ⟨k + 1, t1, by omega, by go_num, ⟨HG6.out _ HR2.out.tab HR2.out.below⟩⟩
                case measure => simp [intOf]; omega
            · have HD1 : Kept (dfAt t t1 1 = 1) := ⟨if_neg hs1⟩
              have hnq := fun wx => neq_yes (w := wx) hs1
              clear hs1
              go_wp2_with fail
              go_quiet (fail)
              clear hnq cp0 cp1 cp2 cp3 cq0 cq1 cq2 cq3
              have HR1 := Kept.mk (HQ2.out.drewN nq)
              obtain ⟨U1, hW⟩ : ∃ W', W' = V2.drewN nq := ⟨_, rfl⟩
              rw [← hW] at HR1 ⊢
              clear hW hpl hql
              go_wp2_with fail
              rw [rounds_succ]
              go_wp2_with fail
              refine (nb_c t1 2 _ (B + 1) B HR1.out.tab).mono ?_
              rintro e w1 ⟨rfl, HR1n, rfl⟩
              go_wp2_with fail
              refine (state_c t1 _ _ (B + 1) B (HR1.out.tab.drewN HR1n)).mono ?_
              rintro e w1 ⟨rfl, rfl⟩
              have HR1h := HR1.out.q.lt
              have cz0 := HR1.out.q.cell 8 (v := .int .i64 0) rfl
              have cz1 := HR1.out.q.cell 9 (v := .int .i64 0) rfl
              have cz2 := HR1.out.q.cell 10 (v := .int .i64 0) rfl
              have cz3 := HR1.out.q.cell 11 (v := .int .i64 0) rfl
              have fz0 := HR1.out.q.free 8
              have fz1 := HR1.out.q.free 9
              have fz2 := HR1.out.q.free 10
              have fz3 := HR1.out.q.free 11
              go_wp2_with fail
              have HQ3 := Kept.mk (HR1.out.q2 hB3 hB HR1n)
              obtain ⟨V3, hW⟩ : ∃ W', W' = (((((U1.drewN HR1n).setCell ⟨X + 1 + 1, 8, none⟩ (.int .i64 (stateAt t1 2))).setCell ⟨X + 1 + 1, 9, none⟩ (.int .i64 (nbNode t1 2))).setCell ⟨X + 1 + 1, 10, none⟩ (.int .i64 (nbPort t1 2))).setCell ⟨X + 1 + 1, 11, none⟩ (.int .i64 (0))) := ⟨_, rfl⟩
              rw [← hW] at HQ3 ⊢
              clear hW HR1h cz0 cz1 cz2 cz3 fz0 fz1 fz2 fz3
              have cp0 := HQ3.out.p.cell 8 (v := .int .i64 (stateAt t 2)) rfl
              have cq0 := HQ3.out.q.cell 8 (v := .int .i64 (stateAt t1 2)) rfl
              have cp1 := HQ3.out.p.cell 9 (v := .int .i64 (nbNode t 2)) rfl
              have cq1 := HQ3.out.q.cell 9 (v := .int .i64 (nbNode t1 2)) rfl
              have cp2 := HQ3.out.p.cell 10 (v := .int .i64 (nbPort t 2)) rfl
              have cq2 := HQ3.out.q.cell 10 (v := .int .i64 (nbPort t1 2)) rfl
              have cp3 := HQ3.out.p.cell 11 (v := .int .i64 0) rfl
              have cq3 := HQ3.out.q.cell 11 (v := .int .i64 0) rfl
              have hpl := HQ3.out.p.lt
              have hql := HQ3.out.q.lt
              by_cases hs2 : sgAt t1 2 = sgAt t 2
              · have HD2 : Kept (dfAt t t1 2 = 0) := ⟨if_pos hs2⟩
                have hnq := fun wx => neq_no (w := wx) hs2
                clear hs2
                go_wp2_with fail
                go_quiet (fail)
                clear hnq cp0 cp1 cp2 cp3 cq0 cq1 cq2 cq3
                have HR2 := Kept.mk (HQ3.out.drewN nq)
                obtain ⟨U2, hW⟩ : ∃ W', W' = V3.drewN nq := ⟨_, rfl⟩
                rw [← hW] at HR2 ⊢
                clear hW hpl hql
                go_wp2_with fail
                rw [rounds_succ]
                go_wp2_with fail
                refine (version_c t1 _ (B + 1) B HR2.out.tab).mono ?_
                rintro e w1 ⟨rfl, rfl⟩
                have hve := HCN.out
                rw [HD0.out, HD1.out, HD2.out] at hve
                go_wp2_with fail
                go_roundw
                case rel => exact ⟨k + 1, t1, by omega, by go_num, ⟨HG6.out _ HR2.out.tab HR2.out.below⟩⟩
                case measure => simp [intOf]; omega
              · have HD2 : Kept (dfAt t t1 2 = 1) := ⟨if_neg hs2⟩
                have hnq := fun wx => neq_yes (w := wx) hs2
                clear hs2
                go_wp2_with fail
                go_quiet (fail)
                clear hnq cp0 cp1 cp2 cp3 cq0 cq1 cq2 cq3
                have HR2 := Kept.mk (HQ3.out.drewN nq)
                obtain ⟨U2, hW⟩ : ∃ W', W' = V3.drewN nq := ⟨_, rfl⟩
                rw [← hW] at HR2 ⊢
                clear hW hpl hql
                go_wp2_with fail
                rw [rounds_succ]
                go_wp2_with fail
                refine (version_c t1 _ (B + 1) B HR2.out.tab).mono ?_
                rintro e w1 ⟨rfl, rfl⟩
                have hve := HCN.out
                rw [HD0.out, HD1.out, HD2.out] at hve
                go_wp2_with fail
                go_roundw
                case rel => exact ⟨k + 1, t1, by omega, by go_num, ⟨HG6.out _ HR2.out.tab HR2.out.below⟩⟩
                case measure => simp [intOf]; omega
          · have HD0 : Kept (dfAt t t1 0 = 1) := ⟨if_neg hs0⟩
            have hnq := fun wx => neq_yes (w := wx) hs0
            clear hs0
            go_wp2_with fail
            go_quiet (fail)
            clear hnq cp0 cp1 cp2 cp3 cq0 cq1 cq2 cq3
            have HR0 := Kept.mk (HQ1.out.drewN nq)
            obtain ⟨U0, hW⟩ : ∃ W', W' = V1.drewN nq := ⟨_, rfl⟩
            rw [← hW] at HR0 ⊢
            clear hW hpl hql
            go_wp2_with fail
            rw [rounds_succ]
            go_wp2_with fail
            refine (nb_c t1 1 _ (B + 1) B HR0.out.tab).mono ?_
            rintro e w1 ⟨rfl, HR0n, rfl⟩
            go_wp2_with fail
            refine (state_c t1 _ _ (B + 1) B (HR0.out.tab.drewN HR0n)).mono ?_
            rintro e w1 ⟨rfl, rfl⟩
            have HR0h := HR0.out.q.lt
            have cz0 := HR0.out.q.cell 4 (v := .int .i64 0) rfl
            have cz1 := HR0.out.q.cell 5 (v := .int .i64 0) rfl
            have cz2 := HR0.out.q.cell 6 (v := .int .i64 0) rfl
            have cz3 := HR0.out.q.cell 7 (v := .int .i64 0) rfl
            have fz0 := HR0.out.q.free 4
            have fz1 := HR0.out.q.free 5
            have fz2 := HR0.out.q.free 6
            have fz3 := HR0.out.q.free 7
            go_wp2_with fail
            have HQ2 := Kept.mk (HR0.out.q1 hB3 hB HR0n)
            obtain ⟨V2, hW⟩ : ∃ W', W' = (((((U0.drewN HR0n).setCell ⟨X + 1 + 1, 4, none⟩ (.int .i64 (stateAt t1 1))).setCell ⟨X + 1 + 1, 5, none⟩ (.int .i64 (nbNode t1 1))).setCell ⟨X + 1 + 1, 6, none⟩ (.int .i64 (nbPort t1 1))).setCell ⟨X + 1 + 1, 7, none⟩ (.int .i64 (0))) := ⟨_, rfl⟩
            rw [← hW] at HQ2 ⊢
            clear hW HR0h cz0 cz1 cz2 cz3 fz0 fz1 fz2 fz3
            have cp0 := HQ2.out.p.cell 4 (v := .int .i64 (stateAt t 1)) rfl
            have cq0 := HQ2.out.q.cell 4 (v := .int .i64 (stateAt t1 1)) rfl
            have cp1 := HQ2.out.p.cell 5 (v := .int .i64 (nbNode t 1)) rfl
            have cq1 := HQ2.out.q.cell 5 (v := .int .i64 (nbNode t1 1)) rfl
            have cp2 := HQ2.out.p.cell 6 (v := .int .i64 (nbPort t 1)) rfl
            have cq2 := HQ2.out.q.cell 6 (v := .int .i64 (nbPort t1 1)) rfl
            have cp3 := HQ2.out.p.cell 7 (v := .int .i64 0) rfl
            have cq3 := HQ2.out.q.cell 7 (v := .int .i64 0) rfl
            have hpl := HQ2.out.p.lt
            have hql := HQ2.out.q.lt
            by_cases hs1 : sgAt t1 1 = sgAt t 1
            · have HD1 : Kept (dfAt t t1 1 = 0) := ⟨if_pos hs1⟩
              have hnq := fun wx => neq_no (w := wx) hs1
              clear hs1
              go_wp2_with fail
              go_quiet (fail)
              clear hnq cp0 cp1 cp2 cp3 cq0 cq1 cq2 cq3
              have HR1 := Kept.mk (HQ2.out.drewN nq)
              obtain ⟨U1, hW⟩ : ∃ W', W' = V2.drewN nq := ⟨_, rfl⟩
              rw [← hW] at HR1 ⊢
              clear hW hpl hql
              go_wp2_with fail
              rw [rounds_succ]
              go_wp2_with fail
              refine (nb_c t1 2 _ (B + 1) B HR1.out.tab).mono ?_
              rintro e w1 ⟨rfl, HR1n, rfl⟩
              go_wp2_with fail
              refine (state_c t1 _ _ (B + 1) B (HR1.out.tab.drewN HR1n)).mono ?_
              rintro e w1 ⟨rfl, rfl⟩
              have HR1h := HR1.out.q.lt
              have cz0 := HR1.out.q.cell 8 (v := .int .i64 0) rfl
              have cz1 := HR1.out.q.cell 9 (v := .int .i64 0) rfl
              have cz2 := HR1.out.q.cell 10 (v := .int .i64 0) rfl
              have cz3 := HR1.out.q.cell 11 (v := .int .i64 0) rfl
              have fz0 := HR1.out.q.free 8
              have fz1 := HR1.out.q.free 9
              have fz2 := HR1.out.q.free 10
              have fz3 := HR1.out.q.free 11
              go_wp2_with fail
              have HQ3 := Kept.mk (HR1.out.q2 hB3 hB HR1n)
              obtain ⟨V3, hW⟩ : ∃ W', W' = (((((U1.drewN HR1n).setCell ⟨X + 1 + 1, 8, none⟩ (.int .i64 (stateAt t1 2))).setCell ⟨X + 1 + 1, 9, none⟩ (.int .i64 (nbNode t1 2))).setCell ⟨X + 1 + 1, 10, none⟩ (.int .i64 (nbPort t1 2))).setCell ⟨X + 1 + 1, 11, none⟩ (.int .i64 (0))) := ⟨_, rfl⟩
              rw [← hW] at HQ3 ⊢
              clear hW HR1h cz0 cz1 cz2 cz3 fz0 fz1 fz2 fz3
              have cp0 := HQ3.out.p.cell 8 (v := .int .i64 (stateAt t 2)) rfl
              have cq0 := HQ3.out.q.cell 8 (v := .int .i64 (stateAt t1 2)) rfl
              have cp1 := HQ3.out.p.cell 9 (v := .int .i64 (nbNode t 2)) rfl
              have cq1 := HQ3.out.q.cell 9 (v := .int .i64 (nbNode t1 2)) rfl
              have cp2 := HQ3.out.p.cell 10 (v := .int .i64 (nbPort t 2)) rfl
              have cq2 := HQ3.out.q.cell 10 (v := .int .i64 (nbPort t1 2)) rfl
              have cp3 := HQ3.out.p.cell 11 (v := .int .i64 0) rfl
              have cq3 := HQ3.out.q.cell 11 (v := .int .i64 0) rfl
              have hpl := HQ3.out.p.lt
              have hql := HQ3.out.q.lt
              by_cases hs2 : sgAt t1 2 = sgAt t 2
              · have HD2 : Kept (dfAt t t1 2 = 0) := ⟨if_pos hs2⟩
                have hnq := fun wx => neq_no (w := wx) hs2
                clear hs2
                go_wp2_with fail
                go_quiet (fail)
                clear hnq cp0 cp1 cp2 cp3 cq0 cq1 cq2 cq3
                have HR2 := Kept.mk (HQ3.out.drewN nq)
                obtain ⟨U2, hW⟩ : ∃ W', W' = V3.drewN nq := ⟨_, rfl⟩
                rw [← hW] at HR2 ⊢
                clear hW hpl hql
                go_wp2_with fail
                rw [rounds_succ]
                go_wp2_with fail
                refine (version_c t1 _ (B + 1) B HR2.out.tab).mono ?_
                rintro e w1 ⟨rfl, rfl⟩
                have hve := HCN.out
                rw [HD0.out, HD1.out, HD2.out] at hve
                go_wp2_with fail
                go_roundw
                case rel => exact ⟨k + 1, t1, by omega, by go_num, ⟨HG6.out _ HR2.out.tab HR2.out.below⟩⟩
                case measure => simp [intOf]; omega
              · have HD2 : Kept (dfAt t t1 2 = 1) := ⟨if_neg hs2⟩
                have hnq := fun wx => neq_yes (w := wx) hs2
                clear hs2
                go_wp2_with fail
                go_quiet (fail)
                clear hnq cp0 cp1 cp2 cp3 cq0 cq1 cq2 cq3
                have HR2 := Kept.mk (HQ3.out.drewN nq)
                obtain ⟨U2, hW⟩ : ∃ W', W' = V3.drewN nq := ⟨_, rfl⟩
                rw [← hW] at HR2 ⊢
                clear hW hpl hql
                go_wp2_with fail
                rw [rounds_succ]
                go_wp2_with fail
                refine (version_c t1 _ (B + 1) B HR2.out.tab).mono ?_
                rintro e w1 ⟨rfl, rfl⟩
                have hve := HCN.out
                rw [HD0.out, HD1.out, HD2.out] at hve
                go_wp2_with fail
                go_roundw
                case rel => exact ⟨k + 1, t1, by omega, by go_num, ⟨HG6.out _ HR2.out.tab HR2.out.below⟩⟩
                case measure => simp [intOf]; omega
            · have HD1 : Kept (dfAt t t1 1 = 1) := ⟨if_neg hs1⟩
              have hnq := fun wx => neq_yes (w := wx) hs1
              clear hs1
              go_wp2_with fail
              go_quiet (fail)
              clear hnq cp0 cp1 cp2 cp3 cq0 cq1 cq2 cq3
              have HR1 := Kept.mk (HQ2.out.drewN nq)
              obtain ⟨U1, hW⟩ : ∃ W', W' = V2.drewN nq := ⟨_, rfl⟩
              rw [← hW] at HR1 ⊢
              clear hW hpl hql
              go_wp2_with fail
              rw [rounds_succ]
              go_wp2_with fail
              refine (nb_c t1 2 _ (B + 1) B HR1.out.tab).mono ?_
              rintro e w1 ⟨rfl, HR1n, rfl⟩
              go_wp2_with fail
              refine (state_c t1 _ _ (B + 1) B (HR1.out.tab.drewN HR1n)).mono ?_
              rintro e w1 ⟨rfl, rfl⟩
              have HR1h := HR1.out.q.lt
              have cz0 := HR1.out.q.cell 8 (v := .int .i64 0) rfl
              have cz1 := HR1.out.q.cell 9 (v := .int .i64 0) rfl
              have cz2 := HR1.out.q.cell 10 (v := .int .i64 0) rfl
              have cz3 := HR1.out.q.cell 11 (v := .int .i64 0) rfl
              have fz0 := HR1.out.q.free 8
              have fz1 := HR1.out.q.free 9
              have fz2 := HR1.out.q.free 10
              have fz3 := HR1.out.q.free 11
              go_wp2_with fail
              have HQ3 := Kept.mk (HR1.out.q2 hB3 hB HR1n)
              obtain ⟨V3, hW⟩ : ∃ W', W' = (((((U1.drewN HR1n).setCell ⟨X + 1 + 1, 8, none⟩ (.int .i64 (stateAt t1 2))).setCell ⟨X + 1 + 1, 9, none⟩ (.int .i64 (nbNode t1 2))).setCell ⟨X + 1 + 1, 10, none⟩ (.int .i64 (nbPort t1 2))).setCell ⟨X + 1 + 1, 11, none⟩ (.int .i64 (0))) := ⟨_, rfl⟩
              rw [← hW] at HQ3 ⊢
              clear hW HR1h cz0 cz1 cz2 cz3 fz0 fz1 fz2 fz3
              have cp0 := HQ3.out.p.cell 8 (v := .int .i64 (stateAt t 2)) rfl
              have cq0 := HQ3.out.q.cell 8 (v := .int .i64 (stateAt t1 2)) rfl
              have cp1 := HQ3.out.p.cell 9 (v := .int .i64 (nbNode t 2)) rfl
              have cq1 := HQ3.out.q.cell 9 (v := .int .i64 (nbNode t1 2)) rfl
              have cp2 := HQ3.out.p.cell 10 (v := .int .i64 (nbPort t 2)) rfl
              have cq2 := HQ3.out.q.cell 10 (v := .int .i64 (nbPort t1 2)) rfl
              have cp3 := HQ3.out.p.cell 11 (v := .int .i64 0) rfl
              have cq3 := HQ3.out.q.cell 11 (v := .int .i64 0) rfl
              have hpl := HQ3.out.p.lt
              have hql := HQ3.out.q.lt
              by_cases hs2 : sgAt t1 2 = sgAt t 2
              · have HD2 : Kept (dfAt t t1 2 = 0) := ⟨if_pos hs2⟩
                have hnq := fun wx => neq_no (w := wx) hs2
                clear hs2
                go_wp2_with fail
                go_quiet (fail)
                clear hnq cp0 cp1 cp2 cp3 cq0 cq1 cq2 cq3
                have HR2 := Kept.mk (HQ3.out.drewN nq)
                obtain ⟨U2, hW⟩ : ∃ W', W' = V3.drewN nq := ⟨_, rfl⟩
                rw [← hW] at HR2 ⊢
                clear hW hpl hql
                go_wp2_with fail
                rw [rounds_succ]
                go_wp2_with fail
                refine (version_c t1 _ (B + 1) B HR2.out.tab).mono ?_
                rintro e w1 ⟨rfl, rfl⟩
                have hve := HCN.out
                rw [HD0.out, HD1.out, HD2.out] at hve
                go_wp2_with fail
                go_roundw
                case rel => exact ⟨k + 1, t1, by omega, by go_num, ⟨HG6.out _ HR2.out.tab HR2.out.below⟩⟩
                case measure => simp [intOf]; omega
              · have HD2 : Kept (dfAt t t1 2 = 1) := ⟨if_neg hs2⟩
                have hnq := fun wx => neq_yes (w := wx) hs2
                clear hs2
                go_wp2_with fail
                go_quiet (fail)
                clear hnq cp0 cp1 cp2 cp3 cq0 cq1 cq2 cq3
                have HR2 := Kept.mk (HQ3.out.drewN nq)
                obtain ⟨U2, hW⟩ : ∃ W', W' = V3.drewN nq := ⟨_, rfl⟩
                rw [← hW] at HR2 ⊢
                clear hW hpl hql
                go_wp2_with fail
                rw [rounds_succ]
                go_wp2_with fail
                refine (version_c t1 _ (B + 1) B HR2.out.tab).mono ?_
                rintro e w1 ⟨rfl, rfl⟩
                have hve := HCN.out
                rw [HD0.out, HD1.out, HD2.out] at hve
                go_wp2_with fail
                go_roundw
                case rel => exact ⟨k + 1, t1, by omega, by go_num, ⟨HG6.out _ HR2.out.tab HR2.out.below⟩⟩
                case measure => simp [intOf]; omega
      · go_wp2_with fail
        go_ret
        exact ⟨rfl, HG'.out.below⟩

set_option maxRecDepth 100000 in
theorem liftedHelloVersion (os : Os) (started : os.Started) (H : Type) (enc : TypeId × Value → H) :
    ReturnsInHanded {} Try.checked os 10 .any (Rows.helloVersionSpec.pre6 enc Try.prog Try.f10 Rows.helloVersionRow.domain false) (Rows.helloVersionSpec.post enc Try.prog Try.f10 false true false false) := by
  refine returnsInHanded_of_change (C := Try.checked) own started (by kernel_rfl) Try.func10
    (ChangeSpec.witness6 (enc := enc) (C := Try.checked) false ⟨#[], #[.slice none 0 0], []⟩ 8 (by kernel_rfl) (by kernel_rfl) (by kernel_rfl) (by kernel_rfl)) ?_
  intro W base args ds gs before hval0 hW hcnd _
  have hval : ∀ (j : Nat) t v, Try.f10.params[j]? = some t → args[j]? = some v → Value.okWide Try.prog W .any base t v := hval0
  have hW' := hW
  obtain ⟨p, q, hA0, hV, rfl, hfz, hnd⟩ := hW
  have hA : DataW.TrodAll enc Try.prog W 0 (fun _ => true) true Try.f10.params.toList args.toList ds p := hA0
  rw [Try.params10] at hA hval
  obtain ⟨v0, vs0, d0, ds0, p0, q0, hargs, rfl, rfl, h0, r0⟩ := trodAll_cons hA
  obtain ⟨rfl, rfl, rfl⟩ := trodAll_nil r0
  obtain rfl : args = #[v0] := by cases args; simp_all
  obtain ⟨rfl, rfl⟩ := trodVars_none hV
  have k0 := h0
  have lt0 : ∀ x ∈ p0, x.block < W.heap.size := by obtain ⟨m, hm⟩ := k0; exact DataW.trod_lt m _ _ _ hm
  obtain ⟨a0, len0, cap0, rfl⟩ := okWide_slice Try.underlying29 (hval 0 29 v0 rfl rfl)
  have w0 : IsRows W 6 IsAct a0 len0 cap0 := open_rows Try.underlying29 (show Try.prog.cellsOf 41 = 6 by kernel_rfl) (by decide) isAct h0
  clear hA0 hval0
  refine (walkHelloVersion a0 len0 cap0 W w0).mono fun e W' ⟨he, bel⟩ => ?_
  subst he
  exact ⟨_, rfl, _, _, _, [], _, [], hW', trodAll_mk1 (shut_bool Try.underlying4 _), (trodAll_cons_mk (Below.trod laidOut (by kernel_rfl) (of_decide_eq_true (by kernel_rfl)) k0 bel lt0) trodAll_mk0), rfl, bel.frame _, fun h => by cases h⟩
/-- The given statement. -/
theorem helloVersion_holds : Rows.HelloVersionSaid :=
  OpenClaim.holds_of_wide 10 Try.f10 rfl rfl rfl rfl rfl rfl rfl ⟨rfl, rfl, rfl, rfl, rfl⟩ rfl rfl rfl rfl rfl (by kernel_rfl) Try.func10 (by kernel_rfl)
    (of_decide_eq_true (by kernel_rfl)) (by unfold Func.isWrapper; first | (rw [if_pos (by decide +kernel)]; kernel_rfl) | (rw [if_neg (by decide +kernel)]; exact ⟨rfl, rfl⟩))
    (fun os started H enc _ => liftedHelloVersion os started H enc)
#print axioms helloVersion_holds
end Go.Proofs.Ytkbnacboianjkaa
