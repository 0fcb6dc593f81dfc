/- Reconfig: the reference's New. -/
import Derived.Test.YtibmbhnpmfgclaaRZH
namespace Go.Proofs.Ytibmbhnpmfgclaa
set_option linter.unusedVariables false
set_option linter.unusedSimpArgs false
open Go.RowKit Go.Maps
def n0R : Rn := ⟨⟨0, 0, false, []⟩, none, 0⟩
def RNew (w : World) (P : List Int) (e : Ending) (w' : World) : Prop :=
  ∃ S : RSt, e = .returned (.agg #[.slice (some ⟨S.gp, 0, none⟩) P.length S.kp, .slice (some ⟨S.g, 0, none⟩) P.length S.kn]) ∧ rps S = List.replicate P.length ⟨0, 0, false, []⟩ ∧ RAt w' P S ∧ Below w.heap.size w w'
/-- While the nodes are made. -/
structure NwAt (w w2 wr : World) (P : List Int) (b : Nat) (Ap : Option Addr) (kp k : Nat) (An : Option Addr) (kn : Nat) : Prop where
  bx : Blk wr b 53 #[.slice Ap P.length kp, .slice An k kn]
  br : Blk wr w.heap.size 53 #[.slice none 0 0, .slice none 0 0]
  own : wr.ownsRow (b + 1) 68 4 (.slice An k kn) k ((List.replicate k n0R).flatMap rcell)
  par : wr.ownsRow (w.heap.size + 1) 3 1 (.slice Ap P.length kp) P.length (P.flatMap icell)
  blw : Below w.heap.size w wr
  lt : w.heap.size + 1 < b
theorem NwAt.step {w w2 wr w9 : World} {P : List Int} {b kp k kn kn2 : Nat} {Ap An A2 : Option Addr} {o : Obj} (h : NwAt w w2 wr P b Ap kp k An kn) (hgw : (wr.alloc o).grownBy w9 (Value.slice An k kn).ownBlock)
    (ho : w9.ownsRow (b + 1) 68 4 (.slice A2 (k + 1) kn2) (k + 1) ((List.replicate k n0R).flatMap rcell ++ rcell n0R)) : NwAt w w2 (w9.setCell ⟨b, 1, none⟩ (.slice A2 (k + 1) kn2)) P b Ap kp (k + 1) A2 kn2 := by
  have hrow : ∀ j, (Value.slice An k kn).ownBlock = some j → b + 1 ≤ j ∧ j < wr.heap.size := fun j hj => h.own.lt j hj
  have hlt := h.lt
  have hb := h.bx.lt
  have hpar : w9.ownsRow (w.heap.size + 1) 3 1 (.slice Ap P.length kp) P.length (P.flatMap icell) := own_grown (h.par.alloc o) hgw (fun g hg => own_own_ne (h.par.alloc o) (h.own.alloc o) (by decide) hg)
  have hbx9 := (h.bx.alloc o).grown hgw (fun e => by have := (hrow _ e.symm).1; omega)
  refine ⟨hbx9.to 1 _ rfl, ((h.br.alloc o).grown hgw (fun e => by have := (hrow _ e.symm).1; omega)).far (by simp only; omega) _, ?_, ownsRow_setCell_other hpar (a := ⟨b, 1, none⟩) (own_blk_ne hpar hbx9 (by decide)) _, ?_, hlt⟩
  · have := ownsRow_setCell_other ho (a := ⟨b, 1, none⟩) (fun e => by have := (ho.lt _ e).1; simp only at this; omega) (.slice A2 (k + 1) kn2)
    rw [List.replicate_succ', List.flatMap_append]
    simpa using this
  · exact ((h.blw.alloc h.blw.size o).grown hgw (by have := h.blw.size; simp; omega) (fun j hj => by have := (hrow j hj).1; omega)).setCell (by simp only; omega) _
theorem NwAt.fin {w w2 wr : World} {P : List Int} {b kp kn : Nat} {Ap An : Option Addr} (h : NwAt w w2 wr P b Ap kp P.length An kn) (h0 : 0 < P.length) (hl : P.length ≤ 1000000) :
    ∃ gp g, Ap = some ⟨gp, 0, none⟩ ∧ An = some ⟨g, 0, none⟩ ∧ RAt wr P ⟨gp, kp, g, kn, List.replicate P.length n0R⟩ ∧ rps ⟨gp, kp, g, kn, List.replicate P.length n0R⟩ = List.replicate P.length ⟨0, 0, false, []⟩ := by
  obtain ⟨gp, e1, _, o1⟩ := OwnAt.of_own h.par icell_len (by omega) rfl h0
  obtain ⟨g, e2, _, o2⟩ := OwnAt.of_own h.own rcell_len (by omega) (by simp) h0
  refine ⟨gp, g, e1, e2, ⟨h0, hl, o1, o2, by simp, fun n hn => ?_, fun n hn hL => ?_, fun u v a c hu hv hL => ?_⟩, by simp [rps, n0R]⟩
  · rw [(List.mem_replicate.1 hn).2]; simp [n0R]
  · rw [(List.mem_replicate.1 hn).2] at hL; exact absurd rfl hL
  · have ha := (List.mem_replicate.1 (List.mem_of_getElem? hu)).2
    rw [ha] at hL; exact absurd rfl hL
section
variable (w : World) (P : List Int)
set_option maxRecDepth 100000 in
set_option maxHeartbeats 4000000 in
theorem rNew_c (A : Option Addr) (B cap : Nat) (h : RowsAt w B 1 icell A P) (hB : B ≤ w.heap.size) (h0 : 0 < P.length) (hl : P.length ≤ 1000000) : Calls Try.prog 25 #[.slice A P.length cap] w (RNew w P) := by
  have HP := Kept.mk h
  obtain ⟨jj, hjj, hy0, hy1, hy2⟩ := info_parts infoNo
  obtain ⟨ji, hji, hi0, hi1, hi2⟩ := info_parts infoI3
  have HR6 : Kept (Reads ((w.alloc (.cells #[.slice none 0 0, .slice none 0 0] 53)).alloc (.cells #[] 3)) B 1 A P.length (P.flatMap icell)) := ⟨(h.rd.alloc hB _).alloc (by simp; omega) _⟩
  have HE6 : Kept (((w.alloc (.cells #[.slice none 0 0, .slice none 0 0] 53)).alloc (.cells #[] 3)).ownsRow (w.heap.size + 1) 3 1 (.slice (some ⟨w.heap.size + 1, 0, none⟩) 0 0) 0 []) := ⟨by simpa using own_empty (w.alloc (.cells #[.slice none 0 0, .slice none 0 0] 53)) 3 1 (w.heap.size + 1) (by simp)⟩
  have HB6 := Kept.mk ((Blk.new w 53 #[.slice none 0 0, .slice none 0 0]).alloc (.cells #[] 3))
  have HD6 : Kept (Below w.heap.size w ((w.alloc (.cells #[.slice none 0 0, .slice none 0 0] 53)).alloc (.cells #[] 3))) := ⟨((Below.refl _ _).alloc (Nat.le_refl _) _).alloc (by simp) _⟩
  have h1 : ∀ u ∈ P.flatMap icell, u.oneCell' = true := (by intro u hu; obtain ⟨b, _, hb⟩ := List.mem_flatMap.1 hu; simp [icell] at hb; subst hb; rfl)
  clear h
  go_enter Try.func25, Try.ntmps25
  go_wp2_with ((at_builtin; refine wpList_append_any _ rfl _ _ _ rfl (w.heap.size + 1) 3 ji _ 1 8 Try.underlying22 hji hi0 hi1 hi2 rfl (by omega) _ 0 _ rfl HE6.out _ _ P.length cap _ rfl HR6.out h1 (by unfold maxLen; omega) (by omega) (by simp) ?_; intro v' w7 ho hgw hat; rw [Nat.zero_add, List.nil_append] at ho; obtain ⟨Ap, kp, rfl⟩ := own_slice ho; have HO7 := Kept.mk ho; change World.grownBy _ _ (some (w.heap.size + 1)) at hgw; have HB7 := Kept.mk (HB6.out.grown hgw (by simp)); have HD7 := Kept.mk (HD6.out.grown hgw (by simp; omega) (fun j hj => by injection hj with hj; omega)); have hz7 := hgw.size; clear ho hgw hat))
  simp at hz7
  have HP0 : Kept (NwAt w w7 (w7.alloc (.cells #[.slice Ap P.length kp, .slice none 0 0] 53)) P w7.heap.size Ap kp 0 none 0) := ⟨⟨Blk.new _ _ _, HB7.out.alloc _, World.ownsRow_nil _ _ _ _, HO7.out.alloc _, HD7.out.alloc HD7.out.size _, by omega⟩⟩
  go_loopw [4] (fun v4 wr => ∃ (k : Nat) (An : Option Addr) (kn : Nat), k ≤ P.length ∧ v4 = .int .i64 k ∧ Kept (NwAt w w7 wr P w7.heap.size Ap kp k An kn)) (fun v4 _ => P.length - (intOf v4).toNat)
  case atStart => exact ⟨0, none, 0, Nat.zero_le _, rfl, HP0⟩
  case round =>
    obtain ⟨k, An, kn, hk, rfl, HC⟩ := hrel
    have hz := HC.out.bx.lt
    have c1 := HC.out.bx.cell 1 (v := .slice An k kn) rfl
    have cf := HC.out.bx.free 1
    by_cases hlt : k < P.length
    · have HN8 := Kept.mk (HC.out.own.alloc (.cells #[.int .i64 0, .int .i64 0, .bool false, .slice none 0 0] 68))
      have HM8 := Kept.mk (reads_made wr #[.int .i64 0, .int .i64 0, .bool false, .slice none 0 0] 68 4 1 rfl)
      have g2 : ∀ u ∈ (#[Value.int .i64 0, .int .i64 0, .bool false, .slice none 0 0]).toList, u.oneCell' = true := (by intro u hu; simp at hu; rcases hu with rfl | rfl | rfl | rfl <;> rfl)
      go_wp2_with ((at_builtin; refine wpList_append_any _ rfl _ _ _ rfl (w7.heap.size + 1) 68 jj _ 4 48 Try.underlying51 hjj hy0 hy1 hy2 rfl (by omega) _ k _ rfl HN8.out _ _ 1 1 _ rfl HM8.out g2 (by unfold maxLen; omega) (by omega) (by simp; omega) ?_; intro v'' w9 ho hgw hat; obtain ⟨A2, kn2, rfl⟩ := own_slice ho; have HO9 := Kept.mk ho; change World.grownBy _ _ (Value.slice An k kn).ownBlock at hgw; have HG9 := Kept.mk hgw; have HX9 : Kept (Blk w9 w7.heap.size 53 #[.slice Ap P.length kp, .slice An k kn]) := ⟨(HC.out.bx.alloc _).grown hgw (fun e => by have := (HC.out.own.lt _ e.symm).1; omega)⟩; clear ho hgw hat; have y1 := HX9.out.cell 1 (v := .slice An k kn) rfl; have yf := HX9.out.free 1; have z9 := HX9.out.lt))
      go_roundw
      case rel => exact ⟨k + 1, A2, kn2, by omega, by go_num, ⟨HC.out.step HG9.out (by simpa [rcell, n0R] using HO9.out)⟩⟩
      case measure => simp [intOf]; omega
    · obtain rfl : k = P.length := by omega
      obtain ⟨gp, g, rfl, rfl, hA, hps⟩ := HC.out.fin h0 hl
      have HA := Kept.mk hA
      have HPS := Kept.mk hps
      have c0 := HC.out.bx.cell 0 (v := .slice (some ⟨gp, 0, none⟩) P.length kp) rfl
      have r0 := HC.out.br.cell 0 (v := .slice none 0 0) rfl
      have r1 := HC.out.br.cell 1 (v := .slice none 0 0) rfl
      have r2 := HC.out.br.free 0
      have r3 := HC.out.br.free 1
      have r4 := HC.out.br.lt
      have HS := Kept.mk ((HC.out.br.set_ 0 (.slice (some ⟨gp, 0, none⟩) P.length kp)).set_ 1 (.slice (some ⟨g, 0, none⟩) P.length kn))
      have HA6 := Kept.mk (hA.box HC.out.br (.slice (some ⟨gp, 0, none⟩) P.length kp) (.slice (some ⟨g, 0, none⟩) P.length kn))
      have HD6 : Kept (Below w.heap.size w ((wr.setCell ⟨w.heap.size, 0, none⟩ (.slice (some ⟨gp, 0, none⟩) P.length kp)).setCell ⟨w.heap.size, 1, none⟩ (.slice (some ⟨g, 0, none⟩) P.length kn))) := ⟨(HC.out.blw.setCell (Nat.le_refl _) _).setCell (Nat.le_refl _) _⟩
      clear hlt hA hps
      go_wp2_with fail
      have s0 := HS.out.cell 0 (v := .slice (some ⟨gp, 0, none⟩) P.length kp) rfl
      have s1 := HS.out.cell 1 (v := .slice (some ⟨g, 0, none⟩) P.length kn) rfl
      have a2 := HD6.out
      have a3 := HA6.out
      clear HS HA6 HD6 HA r0 r1 r2 r3
      generalize ((wr.setCell ⟨w.heap.size, 0, none⟩ (.slice (some ⟨gp, 0, none⟩) P.length kp)).setCell ⟨w.heap.size, 1, none⟩ (.slice (some ⟨g, 0, none⟩) P.length kn)) = W at *
      refine bodyPost_ret (v := .agg #[.slice (some ⟨gp, 0, none⟩) P.length kp, .slice (some ⟨g, 0, none⟩) P.length kn]) (by simp [results, Try.results25, go_sem, s0, s1]) rfl ?_
      exact ⟨⟨gp, kp, g, kn, List.replicate P.length n0R⟩, rfl, HPS.out, a3, a2⟩
end
end Go.Proofs.Ytibmbhnpmfgclaa
