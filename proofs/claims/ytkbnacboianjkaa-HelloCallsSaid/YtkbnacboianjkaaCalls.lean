/- Hello: a table and the reference's, side by side. -/
import Derived.Test.YtkbnacboianjkaaRefU
import Derived.Test.YtkbnacboianjkaaActs
import Derived.Test.YtkbnacboianjkaaNeq
namespace Go.Proofs.Ytkbnacboianjkaa
set_option linter.unusedVariables false
set_option linter.unusedSimpArgs false
open Go.RowKit
/-- A port that is not silent has seen an incarnation. -/
def Seen (t : Tb) : Prop := ∀ p ∈ t.ports, p.state ≠ 0 → p.last.inc ≠ 0
theorem seen_new (node inc : Int) (n : Nat) (every dead : Int) : Seen (new node inc n every dead) := fun p hp hs => by
  simp [new, pt0] at hp
  exact absurd (by rw [hp.2]) hs
theorem seen_tick {t : Tb} (h : Seen t) : Seen (tick t) := fun p hp hs => by
  simp only [tick, List.mem_map] at hp
  obtain ⟨q, hq, rfl⟩ := hp
  unfold fade at hs ⊢
  split at hs
  · exact absurd rfl hs
  · rename_i hf
    rw [if_neg hf]
    exact h q hq hs
theorem seen_recv {t : Tb} (h : Seen t) (i : Int) (m : Msg) : Seen (recv t i m) := fun p hp hs => by
  unfold recv at hp
  split at hp
  · rename_i hE
    simp only [recvAt] at hp
    rcases List.mem_or_eq_of_mem_set hp with hp | rfl
    · exact h p hp hs
    · have hm : msgB m = true := by
        unfold recvE at hE
        split at hE
        · rename_i hv; exact hv.2.2
        · cases hE
      have : inB m.inc 1 1099511627775 = true := by
        simp only [msgB, Bool.and_eq_true] at hm
        exact hm.1.1.2
      have := inB_iff.1 this
      show m.inc ≠ 0
      omega
  · exact h p hp hs
theorem bd_new2 (node inc : Int) (n : Nat) (every dead : Int) (hn : n ≤ 8) (h1 : 1 ≤ every) (h2 : 1 ≤ dead) : Bd 0 (8 * 0) (new node inc n every dead) :=
  ⟨⟨by simp [new], by simp [new], by simp [new], by simpa [new] using h1, by simpa [new] using h2, fun p hp => by simp [new, pt0] at hp; rw [hp.2]; simp [new]⟩, by simp [new], by simp [new], by simpa [new] using hn⟩
structure HC (w : World) (B b : Nat) (t : Tb) (A : Option Addr) (ka k : Nat) (wr : World) : Prop where
  tab : Table wr (B + 1) B t
  bx : Blk wr b 35 #[.int .i64 t.node, .int .i64 t.inc, .int .i64 t.every, .int .i64 t.dead, .slice A t.ports.length ka, .int .i64 t.ticks, .int .i64 t.version]
  rt : RT wr t A ka
  bd : Bd k (8 * k) t
  seen : Seen t
  blw : Below w.heap.size w wr
  hB : w.heap.size ≤ B
  hb : B + 1 < b
theorem HC.new_ {w wr w' : World} {B b : Nat} {t : Tb} {A : Option Addr} {ka k : Nat} (h : HC w B b t A ka k wr) (hb : Below wr.heap.size wr w') : HC w B b t A ka k w' :=
  ⟨h.tab.new_ hb, h.bx.new_ hb, h.rt.new_ hb, h.bd, h.seen, join h.blw hb, h.hB, h.hb⟩
theorem HC.start {w wa wb wc : World} {t : Tb} {A : Option Addr} {ka : Nat} (hJ : Below w.heap.size w wa) (hT : Table wb (wa.heap.size + 1) wa.heap.size t) (hbb : Below wa.heap.size wa wb) (hz : wb.heap.size = wa.heap.size + 2) (hR : RT wc t A ka) (hbc : Below wb.heap.size wb wc) (hbd : Bd 0 (8 * 0) t) (hs : Seen t) :
    HC w wa.heap.size wc.heap.size t A ka 0 (wc.alloc (.cells #[.int .i64 t.node, .int .i64 t.inc, .int .i64 t.every, .int .i64 t.dead, .slice A t.ports.length ka, .int .i64 t.ticks, .int .i64 t.version] 35)) := by
  have z1 := hbc.size
  have hbn : Below wc.heap.size wc (wc.alloc (.cells #[.int .i64 t.node, .int .i64 t.inc, .int .i64 t.every, .int .i64 t.dead, .slice A t.ports.length ka, .int .i64 t.ticks, .int .i64 t.version] 35)) := (Below.refl _ _).alloc (Nat.le_refl _) _
  exact ⟨(hT.new_ hbc).new_ hbn, Blk.new _ _ _, hR.new_ hbn, hbd, hs, join (join (join hJ hbb) hbc) hbn, hJ.size, by omega⟩
theorem HC.cells {w wr : World} {B b : Nat} {t : Tb} {A : Option Addr} {ka k : Nat} (h : HC w B b t A ka k wr) :
    (wr.cell? ⟨b, 0, none⟩ = some (.int .i64 t.node) ∧ wr.cell? ⟨b, 1, none⟩ = some (.int .i64 t.inc) ∧ wr.cell? ⟨b, 2, none⟩ = some (.int .i64 t.every) ∧ wr.cell? ⟨b, 3, none⟩ = some (.int .i64 t.dead) ∧ wr.cell? ⟨b, 4, none⟩ = some (.slice A t.ports.length ka) ∧ wr.cell? ⟨b, 5, none⟩ = some (.int .i64 t.ticks) ∧ wr.cell? ⟨b, 6, none⟩ = some (.int .i64 t.version)) :=
  ⟨h.bx.cell 0 rfl, h.bx.cell 1 rfl, h.bx.cell 2 rfl, h.bx.cell 3 rfl, h.bx.cell 4 rfl, h.bx.cell 5 rfl, h.bx.cell 6 rfl⟩
theorem stateEq_c (t : Tb) (port x : Int) (w : World) (b g : Nat) (h : Table w b g t) (hx : stateAt t port = x) : Calls Try.prog 14 #[.pointer (some ⟨b, 0, none⟩), .int .i64 port] w fun e w' => e = .returned (.int .i64 x) ∧ w = w' := hx ▸ state_c t port w b g h
theorem nbEq_c (t : Tb) (port x y : Int) (o : Bool) (w : World) (b g : Nat) (h : Table w b g t) (h1 : nbNode t port = x) (h2 : nbPort t port = y) (h3 : nbOk t port = o) : Calls Try.prog 22 #[.pointer (some ⟨b, 0, none⟩), .int .i64 port] w fun e w' => e = .returned (.tuple #[.int .i64 x, .int .i64 y, .bool o]) ∧ ∃ n, w.drewN n = w' := by
  have := nb_c t port w b g h
  rw [h1, h2, h3] at this
  exact this
theorem Table.blks {w : World} {b g : Nat} {t : Tb} (h : Table w b g t) : ∀ x, Own b g x → ∃ ty cs, Blk w x ty cs ∧ ty ≠ 54 := by
  rintro x (rfl | rfl)
  · exact ⟨_, _, h.tab, by decide⟩
  · exact ⟨_, _, h.row, by decide⟩
/-- Both sides take their step; the reference's result is stored. -/
theorem HC.step {w w1 w2 w3 w4 : World} {B b : Nat} {t t' : Tb} {A A' : Option Addr} {ka ka' k k' : Nat} (h : HC w B b t A ka k w1) (hT : Table w2 (B + 1) B t') (hO : OnlyP (Own (B + 1) B) w1 w2) (hb3 : Below w2.heap.size w2 w3) (hR : RT w3 t' A' ka')
    (hO4 : OnlyP (fun g => g = b) w3 w4) (hB4 : Blk w4 b 35 #[.int .i64 t'.node, .int .i64 t'.inc, .int .i64 t'.every, .int .i64 t'.dead, .slice A' t'.ports.length ka', .int .i64 t'.ticks, .int .i64 t'.version]) (hbd : Bd k' (8 * k') t') (hs : Seen t') : HC w B b t' A' ka' k' w4 := by
  have hb := h.hb
  have hBB := h.hB
  have hx3 : Blk w3 b 35 #[.int .i64 t.node, .int .i64 t.inc, .int .i64 t.every, .int .i64 t.dead, .slice A t.ports.length ka, .int .i64 t.ticks, .int .i64 t.version] := (h.bx.only hO (by rintro (e | e) <;> omega)).new_ hb3
  refine ⟨(hT.new_ hb3).only hO4 (by omega) (by omega), hB4, hR.only hO4 (fun g hg => by subst hg; exact ⟨_, _, hx3, by decide⟩), hbd, hs, ?_, hBB, hb⟩
  have z1 := h.blw.size
  exact (h.blw.trans (((hO.below (B := w.heap.size) (by rintro j (e | e) <;> omega) z1).trans ((hb3.mono (Nat.le_trans z1 hO.size)))))).trans (hO4.below (B := w.heap.size) (by rintro j rfl; omega) (Nat.le_trans z1 (Nat.le_trans hO.size hb3.size)))
theorem own_msgs {w : World} {base : Nat} {e : TypeId} {v : Value} {ms : List Msg} (h : w.ownsRow base e 4 v ms.length (mflat ms)) (hn : 0 < ms.length) :
    ∃ g cap, v = .slice (some ⟨g, 0, none⟩) ms.length cap ∧ base ≤ g ∧ g < w.heap.size ∧ ms.length ≤ cap ∧
      ∀ k m, ms[k]? = some m → w.cell? ⟨g, k * 4, none⟩ = some (.int .i64 m.node) ∧ w.cell? ⟨g, k * 4 + 1, none⟩ = some (.int .i64 m.inc) ∧ w.cell? ⟨g, k * 4 + 2, none⟩ = some (.int .i64 m.port) ∧ w.cell? ⟨g, k * 4 + 3, none⟩ = some (.int .i64 m.heard) := by
  have hget : ∀ (ms : List Msg) (k : Nat) (m : Msg), ms[k]? = some m → ∀ j v, (mcells m)[j]? = some v → (mflat ms)[k * 4 + j]? = some v := by
    intro ms
    induction ms with
    | nil => intro k m h; simp at h
    | cons a ms ih =>
      intro k m h j v hj
      have hl : j < 4 := by have := (List.getElem?_eq_some_iff.1 hj).1; simpa [mcells] using this
      cases k with
      | zero => simp at h; subst h; rw [mflat, List.getElem?_append_left (by simp [mcells]; omega)]; simpa using hj
      | succ k =>
        simp at h
        rw [mflat, List.getElem?_append_right (by simp [mcells]; omega)]
        rw [← ih k m h j v hj]; congr 1; simp [mcells]; omega
  rcases h.2 with ⟨_, h0⟩ | ⟨g, cap, cur, hv, hb, hg, hc, hr⟩
  · omega
  · have hlt : g < w.heap.size := lt_of_at hg
    have hcell := World.ownsRow.cells h (g := g) (by rw [hv]; rfl)
    have hadd : ∀ j, (⟨g, 0, none⟩ : Addr).add j = ⟨g, j, none⟩ := by intro j; unfold Addr.add; split <;> simp_all
    refine ⟨g, cap, hv, hb, hlt, hc, fun k m hm => ?_⟩
    exact ⟨by rw [← hadd]; exact hcell _ _ (by simpa using hget ms k m hm 0 _ rfl), by rw [← hadd]; exact hcell _ _ (hget ms k m hm 1 _ rfl), by rw [← hadd]; exact hcell _ _ (hget ms k m hm 2 _ rfl), by rw [← hadd]; exact hcell _ _ (hget ms k m hm 3 _ rfl)⟩
set_option maxHeartbeats 1000000 in
theorem eq44 (w : World) (d : Nat) (a b c e : Int) : (Op.equalIn (d + 2) 44 (.agg #[.int .i64 a, .int .i64 b, .int .i64 c, .int .i64 e]) (.agg #[.int .i64 a, .int .i64 b, .int .i64 c, .int .i64 e])).run Try.prog w = .ok true w := by
  rw [Op.equalIn]
  have h3 : Try.prog.cellsOf 3 = 1 := by kernel_rfl
  simp [run_underlying Try.underlying44, eq3]
  simp [List.range'_succ, part, h3, eq3, run_underlying Try.underlying3]
theorem neq44 (w : World) (a b c e : Int) : (binOp .neq 44 (.agg #[.int .i64 a, .int .i64 b, .int .i64 c, .int .i64 e]) (.agg #[.int .i64 a, .int .i64 b, .int .i64 c, .int .i64 e])).run Try.prog w = .ok (.bool false) w := by
  simp only [binOp]
  simp [Op.equal, Op.maxDepth, eq44 w 9998]
theorem state_out {t : Tb} {k : Int} (h : ¬ (0 ≤ k ∧ k.toNat < t.ports.length)) : stateAt t k = 0 := by unfold stateAt; rw [if_neg h]
theorem nb_zero {t : Tb} {k : Int} (h : stateAt t k = 0) : nbOk t k = false ∧ nbNode t k = 0 ∧ nbPort t k = 0 := by
  have h1 : nbOk t k = false := by simp [nbOk, h]
  exact ⟨h1, by simp [nbNode, h1], by simp [nbPort, h1]⟩
theorem state_in {t : Tb} {i : Nat} {p : Pt} (h : t.ports[i]? = some p) : stateAt t (i : Int) = p.state := by
  have hi := (List.getElem?_eq_some_iff.1 h).1
  unfold stateAt
  rw [if_pos ⟨by omega, by simpa using hi⟩]
  simp [h]
theorem nb_one {t : Tb} {i : Nat} {p : Pt} (h : t.ports[i]? = some p) (hs : p.state ≠ 0) : nbOk t (i : Int) = true ∧ nbNode t (i : Int) = p.last.node ∧ nbPort t (i : Int) = p.last.port := by
  have h1 : nbOk t (i : Int) = true := by
    have := state_in h
    unfold nbOk
    rw [this]
    simpa using hs
  exact ⟨h1, by simp [nbNode, h1, h], by simp [nbPort, h1, h]⟩
theorem rof_seen {t : Tb} (h : Seen t) {i : Nat} {p : Pt} (hp : t.ports[i]? = some p) (hs : p.state ≠ 0) (now : Int) : (rof now p).n = p.last.node := by
  have := h p (List.mem_of_getElem? hp) hs
  simp only [rof, if_neg this]
theorem out_len8 {t : Tb} (h : t.ports.length ≤ 8) : (out t).length ≤ 8 := by
  unfold out
  split
  · rw [outFrom_len]; exact h
  · simp
theorem HC.drew {w wr : World} {B b : Nat} {t : Tb} {A : Option Addr} {ka k : Nat} (h : HC w B b t A ka k wr) (n : Nat) : HC w B b t A ka k (wr.drewN n) := h.new_ (dN (Below.refl _ _) n)
end Go.Proofs.Ytkbnacboianjkaa
