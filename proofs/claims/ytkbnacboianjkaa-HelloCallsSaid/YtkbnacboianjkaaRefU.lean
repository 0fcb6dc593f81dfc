/- Hello: the reference's Tick. -/
import Derived.Test.YtkbnacboianjkaaRefT
namespace Go.Proofs.Ytkbnacboianjkaa
set_option linter.unusedVariables false
set_option linter.unusedSimpArgs false
open Go.RowKit
theorem TK.start {w : World} {t : Tb} {A : Option Addr} {k : Nat} : Blk ((w.alloc (.cells #[.int .i64 t.node, .int .i64 t.inc, .int .i64 t.every, .int .i64 t.dead, .slice A t.ports.length k, .int .i64 t.ticks, .int .i64 t.version] 35)).alloc (.cells #[.int .i64 0, .int .i64 0, .int .i64 0, .int .i64 0, .slice none 0 0, .int .i64 0, .int .i64 0] 35)) w.heap.size 35 #[.int .i64 t.node, .int .i64 t.inc, .int .i64 t.every, .int .i64 t.dead, .slice A t.ports.length k, .int .i64 t.ticks, .int .i64 t.version] ∧ Blk ((w.alloc (.cells #[.int .i64 t.node, .int .i64 t.inc, .int .i64 t.every, .int .i64 t.dead, .slice A t.ports.length k, .int .i64 t.ticks, .int .i64 t.version] 35)).alloc (.cells #[.int .i64 0, .int .i64 0, .int .i64 0, .int .i64 0, .slice none 0 0, .int .i64 0, .int .i64 0] 35)) (w.heap.size + 1) 35 #[.int .i64 0, .int .i64 0, .int .i64 0, .int .i64 0, .slice none 0 0, .int .i64 0, .int .i64 0] ∧ Below w.heap.size w ((w.alloc (.cells #[.int .i64 t.node, .int .i64 t.inc, .int .i64 t.every, .int .i64 t.dead, .slice A t.ports.length k, .int .i64 t.ticks, .int .i64 t.version] 35)).alloc (.cells #[.int .i64 0, .int .i64 0, .int .i64 0, .int .i64 0, .slice none 0 0, .int .i64 0, .int .i64 0] 35)) ∧ ((w.alloc (.cells #[.int .i64 t.node, .int .i64 t.inc, .int .i64 t.every, .int .i64 t.dead, .slice A t.ports.length k, .int .i64 t.ticks, .int .i64 t.version] 35)).alloc (.cells #[.int .i64 0, .int .i64 0, .int .i64 0, .int .i64 0, .slice none 0 0, .int .i64 0, .int .i64 0] 35)).heap.size = w.heap.size + 2 := by
  have h1 := Blk.new (w.alloc (.cells #[.int .i64 t.node, .int .i64 t.inc, .int .i64 t.every, .int .i64 t.dead, .slice A t.ports.length k, .int .i64 t.ticks, .int .i64 t.version] 35)) 35 #[.int .i64 0, .int .i64 0, .int .i64 0, .int .i64 0, .slice none 0 0, .int .i64 0, .int .i64 0]
  rw [World.size_alloc] at h1
  exact ⟨(Blk.new _ _ _).alloc _, h1, by go_grown, by simp⟩
theorem TK.copied {w X w9 : World} {t : Tb} {A : Option Addr} {k g k' : Nat} {L : List RP} (b0 : Blk X w.heap.size 35 #[.int .i64 t.node, .int .i64 t.inc, .int .i64 t.every, .int .i64 t.dead, .slice A t.ports.length k, .int .i64 t.ticks, .int .i64 t.version]) (b2 : Blk X (w.heap.size + 1) 35 #[.int .i64 0, .int .i64 0, .int .i64 0, .int .i64 0, .slice none 0 0, .int .i64 0, .int .i64 0]) (bl : Below w.heap.size w X) (hX : X.heap.size = w.heap.size + 2)
    (hgw : (X.alloc (.cells #[] 54)).grownBy w9 (some X.heap.size)) (ho : w9.ownsRow X.heap.size 54 5 (.slice (some ⟨g, 0, none⟩) t.ports.length k') t.ports.length (rrow L)) (hl : L.length = t.ports.length) :
    TK w (w9.setCell ⟨w.heap.size, 4, none⟩ (.slice (some ⟨g, 0, none⟩) t.ports.length k')) t g k' t.ticks t.version L := by
  have hb : Below X.heap.size X w9 := ((Below.refl _ _).alloc (Nat.le_refl _) _).grown hgw (by simp) (fun j hj => by injection hj with hj; omega)
  have hg := (ho.lt g rfl).1
  rw [hX] at ho hg
  exact ⟨(b0.new_ hb).to 4 _ rfl, (b2.new_ hb).far (by simp only; omega) _, own_set7 ho (by omega) _ _, (join bl hb).setCell (Nat.le_refl _) _, hg, hl⟩
theorem mcells_one {a b c d : Int} : ∀ u ∈ (#[Value.int .i64 a, .int .i64 b, .int .i64 c, .int .i64 d] : Array Value).toList, u.oneCell' = true := by
  intro u hu
  simp only [List.mem_cons, List.not_mem_nil, or_false] at hu
  rcases hu with rfl | rfl | rfl | rfl <;> rfl
theorem own_next {w : World} {B j : Nat} {v : Value} {l : List Msg} {x : Msg} (hn : l.take (j + 1) = l.take j ++ [x]) (h : w.ownsRow B 44 4 v (j + 1) (mflat (l.take j) ++ (#[.int .i64 x.node, .int .i64 x.inc, .int .i64 x.port, .int .i64 x.heard] : Array Value).toList)) : w.ownsRow B 44 4 v (j + 1) (mflat (l.take (j + 1))) := by
  rw [hn, mflat_snoc]; exact h
theorem TK.grown {w W W' : World} {t : Tb} {g k n : Nat} {tk ver : Int} {L : List RP} {v : Value} {xs : List Value} (h : TK w W t g k tk ver L) (ho : W.ownsRow (w.heap.size + 2) 44 4 v n xs) (o : Obj) (hg : (W.alloc o).grownBy W' v.ownBlock) : TK w W' t g k tk ver L := by
  have hv : ∀ j, v.ownBlock = some j → w.heap.size + 2 ≤ j := fun j hj => (ho.lt j hj).1
  refine ⟨(h.b0.alloc o).grow hg (fun e => by have := hv _ e.symm; omega), (h.b2.alloc o).grow hg (fun e => by have := hv _ e.symm; omega), own_grown (h.own.alloc o) (ho.alloc o) (by decide) hg, ?_, h.hg, h.len⟩
  exact (h.blw.alloc h.blw.size o).grown hg (by have := h.blw.size; simp only [World.size_alloc]; omega) (fun j hj => by have := hv j hj; omega)
def RTicks (w : World) (t : Tb) (e : Ending) (w' : World) : Prop :=
  ∃ A k v, e = .returned (.tuple #[rval (tick t) A k, v]) ∧ RT w' (tick t) A k ∧ w'.ownsRow w.heap.size 44 4 v (out (tick t)).length (mflat (out (tick t))) ∧ Below w.heap.size w w'
theorem TK.end_ {w W W9 : World} {t : Tb} {g k n : Nat} {ver : Int} {v : Value} {xs : List Value} (h : TK w W t g k (t.ticks + 1) ver (rports (tick t))) (hvr : ver = (tick t).version) (ho : W.ownsRow (w.heap.size + 2) 44 4 v n xs) (hO : OnlyP (fun b => b = w.heap.size + 1) W W9) (hn : n = (out (tick t)).length) (hx : xs = mflat (out (tick t))) (h1 : 0 < t.ports.length) (h8 : t.ports.length ≤ 8) :
    RTicks w t (.returned (.tuple #[.agg #[.int .i64 t.node, .int .i64 t.inc, .int .i64 t.every, .int .i64 t.dead, .slice (some ⟨g, 0, none⟩) t.ports.length k, .int .i64 (t.ticks + 1), .int .i64 ver], v])) W9 := by
  have hl := tick_len t
  subst hn
  subst hx
  refine ⟨some ⟨g, 0, none⟩, k, v, by simp only [rval, rcs, hl, hvr]; rfl, RT.made (B := w.heap.size + 2) ?_ (by omega) (by omega), own_base (own_only ho hO (by omega)) (by omega), low h.blw hO (by omega)⟩
  rw [hl]
  exact own_only h.own hO (by omega)
set_option maxRecDepth 100000 in
set_option maxHeartbeats 4000000 in
theorem rtick_c (t : Tb) (A : Option Addr) (k : Nat) (w : World) (h : RT w t A k) (hf : Fit t) (h1 : t.ticks + 1 < 1000000000000) (hv1 : t.version < 1000000000000) :
    Calls Try.prog 20 #[rval t A k] w (RTicks w t) := by
  have n1 := h.pos
  have n8 := h.few
  have hk := h.le
  have hkm : k ≤ 9223372036854775807 := by have := h.max; unfold maxLen at this; omega
  have ht0 := hf.ticks0
  have he0 := hf.every
  have hv0 := hf.ver0
  have HFS := Kept.mk hf.since
  have hd0 := hf.dead
  obtain ⟨rb, roff, rfl, hrb, -⟩ := h.at_
  have HRD := Kept.mk h.rd
  obtain ⟨jj, hjj, hy0, hy1, hy2⟩ := info_parts info54
  clear h hf
  unfold rval rcs
  go_enter Try.func20, Try.ntmps20
  go_upto_region 1 with fail
  obtain ⟨X, hX, HB0, HB2, HBL, hXs⟩ : ∃ X, X = (w.alloc (.cells #[.int .i64 t.node, .int .i64 t.inc, .int .i64 t.every, .int .i64 t.dead, .slice (some ⟨rb, roff, none⟩) t.ports.length k, .int .i64 t.ticks, .int .i64 t.version] 35)).alloc (.cells #[.int .i64 0, .int .i64 0, .int .i64 0, .int .i64 0, .slice none 0 0, .int .i64 0, .int .i64 0] 35) ∧ Kept (Blk X w.heap.size 35 #[.int .i64 t.node, .int .i64 t.inc, .int .i64 t.every, .int .i64 t.dead, .slice (some ⟨rb, roff, none⟩) t.ports.length k, .int .i64 t.ticks, .int .i64 t.version]) ∧ Kept (Blk X (w.heap.size + 1) 35 #[.int .i64 0, .int .i64 0, .int .i64 0, .int .i64 0, .slice none 0 0, .int .i64 0, .int .i64 0]) ∧ Kept (Below w.heap.size w X) ∧ X.heap.size = w.heap.size + 2 := ⟨_, rfl, ⟨TK.start.1⟩, ⟨TK.start.2.1⟩, ⟨TK.start.2.2.1⟩, TK.start.2.2.2⟩
  rw [← hX]
  have HXS := Kept.mk hXs
  clear hX hXs
  have k4 := HB0.out.cell 4 (v := .slice (some ⟨rb, roff, none⟩) t.ports.length k) rfl
  have l0 := HB0.out.lt
  have HE6 := Kept.mk (own_lit X 54 5 0 #[] rfl (by omega))
  have HR6 : Kept (Reads (X.alloc (.cells #[] 54)) w.heap.size 5 (some ⟨rb, roff, none⟩) t.ports.length (rrow (rports t))) := ⟨(HRD.out.below HBL.out).alloc HBL.out.size _⟩
  go_upto_region 2 with (at_builtin; refine wpList_append_any _ rfl _ _ _ rfl X.heap.size 54 jj _ 5 40 Try.underlying33 hjj hy0 hy1 hy2 rfl (by omega) _ 0 _ rfl HE6.out _ _ t.ports.length k _ ?a1 HR6.out (rrow_one _) (by unfold maxLen; omega) (by omega) (by simp) ?_; (case a1 => rfl); intro v' w9 ho hgw hat; replace ho : w9.ownsRow X.heap.size 54 5 v' t.ports.length (rrow (rports t)) := (by simpa using ho); change World.grownBy _ _ (some X.heap.size) at hgw; obtain ⟨gq, kq, rfl, -, -⟩ := ho.form n1; have HTK := Kept.mk (TK.copied HB0.out HB2.out HBL.out HXS.out hgw ho (rports_len t)); have hb9 : Below X.heap.size X w9 := (((Below.refl X.heap.size X).alloc (Nat.le_refl _) _).grown hgw (by simp) (fun j hj => by injection hj with hj; omega)); clear ho hgw hat k4; have k4 := (HB0.out.new_ hb9).cell 4 (v := .slice (some ⟨rb, roff, none⟩) t.ports.length k) rfl; have kf4 := (HB0.out.new_ hb9).free 4; replace l0 := (HB0.out.new_ hb9).lt; clear hb9)
  obtain ⟨V, hV, HV⟩ : ∃ V, V = w9.setCell ⟨w.heap.size, 4, none⟩ (.slice (some ⟨gq, 0, none⟩) t.ports.length kq) ∧ Kept (TK w V t gq kq t.ticks t.version (mixL t 0)) := ⟨_, rfl, ⟨by rw [mixL_zero]; exact HTK.out⟩⟩
  rw [← hV]
  clear hV HTK HB0 HB2 HBL HXS HE6 HR6 k4 kf4 l0 HRD hjj hy0 hy1 hy2
  have c5 := HV.out.b0.cell 5 (v := .int .i64 t.ticks) rfl
  have f5 := HV.out.b0.free 5
  have l0 := HV.out.b0.lt
  go_wp2_with fail
  have HV2 : Kept (TK w (V.setCell ⟨w.heap.size, 5, none⟩ (.int .i64 (t.ticks + 1))) t gq kq (t.ticks + 1) (t.version + fadeN t.dead (t.ticks + 1) (t.ports.take 0)) (mixL t 0)) := ⟨by
    have := HV.out.tk5 (t.ticks + 1)
    simpa [fadeN] using this⟩
  clear c5 f5 l0 HV
  go_loopw [4] (fun v4 wr => ∃ i : Nat, i ≤ t.ports.length ∧ v4 = .int .i64 i ∧ Kept (TK w wr t gq kq (t.ticks + 1) (t.version + fadeN t.dead (t.ticks + 1) (t.ports.take i)) (mixL t i))) (fun v4 _ => t.ports.length - (intOf v4).toNat)
  case atStart => exact ⟨0, by omega, rfl, HV2⟩
  case round =>
    clear HV2
    obtain ⟨i, hi, rfl, HV⟩ := hrel
    obtain ⟨ver, hver⟩ : ∃ ver, ver = t.version + fadeN t.dead (t.ticks + 1) (t.ports.take i) := ⟨_, rfl⟩
    rw [← hver] at HV
    have hvb : 0 ≤ ver ∧ ver ≤ t.version + i := by
      have h2 := fadeN_bd t.dead (t.ticks + 1) (t.ports.take i)
      rw [List.length_take, Nat.min_eq_left hi] at h2
      omega
    have HVE := Kept.mk hver
    clear hver
    have c4 := HV.out.b0.cell 4 (v := .slice (some ⟨gq, 0, none⟩) t.ports.length kq) rfl
    have l0 := HV.out.b0.lt
    have lg := HV.out.lt
    have hgw := HV.out.hg
    by_cases hlt : i < t.ports.length
    · have hp := getD_some hlt
      obtain ⟨p, hpp⟩ : ∃ p, p = t.ports.getD i pt0 := ⟨_, rfl⟩
      rw [← hpp] at hp
      have HP := Kept.mk hp
      have hsn := HFS.out p (List.mem_of_getElem? hp)
      obtain ⟨⟨a0, e0⟩, -, -, -, a4, e4⟩ := HV.out.at_ (mixL_at hp)
      have b4 : wr.cell? ⟨gq, i * 5 + 4, none⟩ = some (.int .i64 (t.ticks - p.since)) := a4
      have b0' : wr.cell? ⟨gq, i * 5, none⟩ = some (.int .i64 p.state) := a0
      clear hp hpp a0 a4
      have hi8 : (i : Int) < t.ports.length := by omega
      have hne : gq ≠ w.heap.size := by omega
      have hne2 : w.heap.size ≠ gq := by omega
      go_upto_region 7 with fail
      obtain ⟨V1, hV1, HV1⟩ : ∃ V1, V1 = wr.setCell ⟨gq, i * 5 + 4, none⟩ (.int .i64 (t.ticks - p.since + 1)) ∧ Kept (TK w V1 t gq kq (t.ticks + 1) ver ((mixL t i).set i ⟨p.state, (rof t.ticks p).n, p.last.inc, p.last.port, t.ticks - p.since + 1⟩)) := ⟨_, rfl, ⟨HV.out.put (mixL_at HP.out) 4 _ (by omega) rfl⟩⟩
      rw [← hV1]
      clear hV1 c4 l0 lg b4 b0' e0 e4
      have c3 := HV1.out.b0.cell 3 (v := .int .i64 t.dead) rfl
      have c4 := HV1.out.b0.cell 4 (v := .slice (some ⟨gq, 0, none⟩) t.ports.length kq) rfl
      have c6 := HV1.out.b0.cell 6 (v := .int .i64 ver) rfl
      have f6 := HV1.out.b0.free 6
      have l0 := HV1.out.b0.lt
      have lg := HV1.out.lt
      have hli : i < (mixL t i).length := by rw [mixL_len t i hi]; exact hlt
      obtain ⟨⟨a0, e0⟩, -, -, -, a4, e4⟩ := HV1.out.at_ (List.getElem?_set_self hli)
      have b4 : V1.cell? ⟨gq, i * 5 + 4, none⟩ = some (.int .i64 (t.ticks - p.since + 1)) := a4
      have b0' : V1.cell? ⟨gq, i * 5, none⟩ = some (.int .i64 p.state) := a0
      clear a0 a4 hli
      have hq0 : 0 ≤ t.ticks - p.since + 1 := by omega
      have hq1 : t.ticks - p.since + 1 < 1000000000000 := by omega
      go_cut [50] (fun s50 wx => s50 = .bool (fades t.dead (t.ticks + 1) p) ∧ ∃ n, Kept (wx = V1.drewN n))
      case first =>
        have hcase : (p.state != 0) = false ∨ (p.state != 0) = true ∧ t.dead ≤ t.ticks - p.since + 1 ∨ (p.state != 0) = true ∧ t.ticks - p.since + 1 < t.dead := by
          cases p.state != 0 with
          | false => exact .inl rfl
          | true => right; by_cases hh : t.dead ≤ t.ticks - p.since + 1; exact .inl ⟨rfl, hh⟩; exact .inr ⟨rfl, by omega⟩
        rcases hcase with y1 | ⟨y1, y2⟩ | ⟨y1, y2⟩
        · have E : Kept (fades t.dead (t.ticks + 1) p = false) := ⟨by unfold fades; rw [show (p.state == 0) = true by simpa using y1]; rfl⟩
          go_quiet (fail)
          go_wp2_with fail
          go_meet
          exact ⟨by rw [E.out], _, ⟨rfl⟩⟩
        · have E : Kept (fades t.dead (t.ticks + 1) p = true) := ⟨by unfold fades; rw [show (p.state == 0) = false by simpa using y1, decide_eq_true (show t.dead ≤ t.ticks + 1 - p.since by omega)]; rfl⟩
          go_quiet (fail)
          go_wp2_with fail
          go_meet
          exact ⟨by rw [E.out] <;> first | rfl | rw [decide_eq_true y2], _, ⟨rfl⟩⟩
        · have E : Kept (fades t.dead (t.ticks + 1) p = false) := ⟨by unfold fades; rw [decide_eq_false (show ¬ t.dead ≤ t.ticks + 1 - p.since by omega), Bool.and_false]⟩
          go_quiet (fail)
          go_wp2_with fail
          go_meet
          exact ⟨by rw [E.out] <;> first | rfl | rw [decide_eq_false (show ¬ t.dead ≤ t.ticks - p.since + 1 by omega)], _, ⟨rfl⟩⟩
      case rest =>
        obtain ⟨rfl, nq, HWC⟩ := hcut
        have HV3 : Kept (TK w wc t gq kq (t.ticks + 1) ver ((mixL t i).set i ⟨p.state, (rof t.ticks p).n, p.last.inc, p.last.port, t.ticks - p.since + 1⟩)) := ⟨by rw [HWC.out]; exact HV1.out.drewN nq⟩
        have HRF := Kept.mk (rof_fade t p)
        have HFN := Kept.mk (fadeN_next HP.out)
        have HMN := Kept.mk (mixL_next HP.out)
        have hli : i < (mixL t i).length := by rw [mixL_len t i hi]; exact hlt
        have HSS := Kept.mk (List.getElem?_set_self (l := mixL t i) (a := (⟨p.state, (rof t.ticks p).n, p.last.inc, p.last.port, t.ticks - p.since + 1⟩ : RP)) hli)
        clear hli HV1 HWC c3 c4 c6 f6 l0 lg b4 b0' e0 e4
        have c4 := HV3.out.b0.cell 4 (v := .slice (some ⟨gq, 0, none⟩) t.ports.length kq) rfl
        have c6 := HV3.out.b0.cell 6 (v := .int .i64 ver) rfl
        have f6 := HV3.out.b0.free 6
        have l0 := HV3.out.b0.lt
        have lg := HV3.out.lt
        obtain ⟨⟨a0, e0⟩, -⟩ := HV3.out.at_ HSS.out
        have b0' : wc.cell? ⟨gq, i * 5, none⟩ = some (.int .i64 p.state) := a0
        clear a0
        obtain ⟨F, hF⟩ : ∃ F, F = fades t.dead (t.ticks + 1) p := ⟨_, rfl⟩
        rw [← hF] at HRF HFN ⊢
        clear hF
        cases F with
        | true =>
          have HN : Kept (TK w ((wc.setCell ⟨gq, i * 5, none⟩ (.int .i64 0)).setCell ⟨w.heap.size, 6, none⟩ (.int .i64 (ver + 1))) t gq kq (t.ticks + 1) (t.version + fadeN t.dead (t.ticks + 1) (t.ports.take (i + 1))) (mixL t (i + 1))) := ⟨by
            have := (HV3.out.put HSS.out 0 (.int .i64 0) (r' := ⟨0, (rof t.ticks p).n, p.last.inc, p.last.port, t.ticks - p.since + 1⟩) (by omega) rfl).vers (ver + 1)
            rw [List.set_set] at this
            rw [HMN.out, HRF.out, HFN.out, if_pos rfl, if_pos rfl, ← Int.add_assoc, ← HVE.out]
            exact this⟩
          go_wp2_with fail
          go_roundw
          case rel => exact ⟨i + 1, by omega, by go_num, HN⟩
          case measure => simp [intOf]; omega
        | false =>
          have HN : Kept (TK w wc t gq kq (t.ticks + 1) (t.version + fadeN t.dead (t.ticks + 1) (t.ports.take (i + 1))) (mixL t (i + 1))) := ⟨by
            rw [HMN.out, HRF.out, HFN.out, if_neg (by decide), if_neg (by decide), Int.add_zero, ← HVE.out]
            exact HV3.out⟩
          go_wp2_with fail
          go_roundw
          case rel => exact ⟨i + 1, by omega, by go_num, HN⟩
          case measure => simp [intOf]; omega
    · obtain rfl : i = t.ports.length := by omega
      have HW : Kept (TK w wr t gq kq (t.ticks + 1) (tick t).version (rports (tick t))) := ⟨by
        rw [← mixL_all, show (tick t).version = ver by rw [HVE.out, List.take_length]; rfl]
        exact HV.out⟩
      obtain ⟨vr, hvr⟩ : ∃ vr, vr = (tick t).version := ⟨_, rfl⟩
      rw [← hvr] at HW
      have HVR := Kept.mk hvr
      clear hvr HV HVE hvb hlt hi
      have c2 := HW.out.b0.cell 2 (v := .int .i64 t.every) rfl
      have c5 := HW.out.b0.cell 5 (v := .int .i64 (t.ticks + 1)) rfl
      have hz : (t.every == 0) = false := by rw [beq_eq_false_iff_ne]; omega
      have hz2 : ¬ t.every = 0 := by omega
      have htm : t.ticks.tmod t.every = t.ticks % t.every := Int.tmod_eq_emod_of_nonneg ht0
      have hlen : (tick t).ports.length = t.ports.length := tick_len t
      have HLN := Kept.mk hlen
      clear hlen
      obtain ⟨i4, hi4, hz0, hz1, hz2'⟩ := info_parts info44
      by_cases hs : t.ticks % t.every = 0
      · have hs' : (t.ticks % t.every == 0) = true := by simpa using hs
        have HS := Kept.mk (show out (tick t) = outFrom (tick t) 0 (tick t).ports by unfold out; rw [sends_iff, if_pos (by simpa using hs)])
        go_wp2_with fail
        go_loopw [5, 6] (fun v5 v6 wr => ∃ j : Nat, j ≤ t.ports.length ∧ v6 = .int .i64 j ∧ Kept (TK w wr t gq kq (t.ticks + 1) vr (rports (tick t))) ∧ Kept (wr.ownsRow (w.heap.size + 2) 44 4 v5 j (mflat ((outFrom (tick t) 0 (tick t).ports).take j)))) (fun _ v6 _ => t.ports.length - (intOf v6).toNat)
        case atStart => exact ⟨0, by omega, rfl, HW, ⟨World.ownsRow_nil _ _ _ _⟩⟩
        case round =>
          clear HW c2 c5 c4 l0 lg
          obtain ⟨j, hj, rfl, HT, HO⟩ := hrel
          have c0 := HT.out.b0.cell 0 (v := .int .i64 t.node) rfl
          have c1 := HT.out.b0.cell 1 (v := .int .i64 t.inc) rfl
          have c2 := HT.out.b0.cell 2 (v := .int .i64 t.every) rfl
          have c4 := HT.out.b0.cell 4 (v := .slice (some ⟨gq, 0, none⟩) t.ports.length kq) rfl
          have c5 := HT.out.b0.cell 5 (v := .int .i64 (t.ticks + 1)) rfl
          have l0 := HT.out.b0.lt
          have lg := HT.out.lt
          have hbz := HT.out.b2.lt
          by_cases hlt : j < t.ports.length
          · have hp := getD_some (ps := (tick t).ports) (i := j) (by rw [HLN.out]; exact hlt)
            obtain ⟨p, hpp⟩ : ∃ p, p = (tick t).ports.getD j pt0 := ⟨_, rfl⟩
            rw [← hpp] at hp
            have HNX := Kept.mk (out_succ hp)
            obtain ⟨⟨a0, e0⟩, -, a2, -⟩ := HT.out.at_ (rports_get hp)
            have b0' : wr.cell? ⟨gq, j * 5, none⟩ = some (.int .i64 p.state) := a0
            have b2' : wr.cell? ⟨gq, j * 5 + 2, none⟩ = some (.int .i64 p.last.inc) := a2
            clear a0 a2 hp hpp e0
            have hj8 : (j : Int) < t.ports.length := by omega
            by_cases hz : p.state = 0
            · have hzb : (p.state == 0) = true := by simpa using hz
              have HH : Kept (heardOf p = 0) := ⟨by unfold heardOf; rw [if_pos hz]⟩
              rw [HH.out] at HNX
              have HOA := Kept.mk (HO.out.alloc (.cells #[.int .i64 t.node, .int .i64 t.inc, .int .i64 (j : Int), .int .i64 0] 44))
              have HRL := Kept.mk (Reads.of_own (own_lit wr 44 4 1 #[.int .i64 t.node, .int .i64 t.inc, .int .i64 (j : Int), .int .i64 0] rfl (by omega)))
              go_wp2_with (at_builtin; refine wpList_append_any _ rfl _ _ _ rfl (w.heap.size + 2) 44 i4 _ 4 32 Try.underlying45 hi4 hz0 hz1 hz2' rfl (by omega) _ j _ ?a0 HOA.out _ _ 1 1 _ ?a1 HRL.out mcells_one (by unfold maxLen; omega) (by omega) (by simp only [World.size_alloc]; omega) ?_; (case a0 => rfl); (case a1 => rfl); intro v' w9 ho hgw hat; have HT9 := Kept.mk (HT.out.grown HO.out _ hgw); have HO9 := Kept.mk (own_next HNX.out ho); clear ho hgw hat)
              go_roundw
              case rel => exact ⟨j + 1, by omega, by go_num, HT9, HO9⟩
              case measure => simp [intOf]; omega
            · have hzb : (p.state == 0) = false := by simpa using hz
              have HH : Kept (heardOf p = p.last.inc) := ⟨by unfold heardOf; rw [if_neg hz]⟩
              rw [HH.out] at HNX
              have HOA := Kept.mk (HO.out.alloc (.cells #[.int .i64 t.node, .int .i64 t.inc, .int .i64 (j : Int), .int .i64 p.last.inc] 44))
              have HRL := Kept.mk (Reads.of_own (own_lit wr 44 4 1 #[.int .i64 t.node, .int .i64 t.inc, .int .i64 (j : Int), .int .i64 p.last.inc] rfl (by omega)))
              go_wp2_with (at_builtin; refine wpList_append_any _ rfl _ _ _ rfl (w.heap.size + 2) 44 i4 _ 4 32 Try.underlying45 hi4 hz0 hz1 hz2' rfl (by omega) _ j _ ?a0 HOA.out _ _ 1 1 _ ?a1 HRL.out mcells_one (by unfold maxLen; omega) (by omega) (by simp only [World.size_alloc]; omega) ?_; (case a0 => rfl); (case a1 => rfl); intro v' w9 ho hgw hat; have HT9 := Kept.mk (HT.out.grown HO.out _ hgw); have HO9 := Kept.mk (own_next HNX.out ho); clear ho hgw hat)
              go_roundw
              case rel => exact ⟨j + 1, by omega, by go_num, HT9, HO9⟩
              case measure => simp [intOf]; omega
          · obtain rfl : j = t.ports.length := by omega
            have hon : t.ports.length = (out (tick t)).length := by rw [HS.out, outFrom_len, HLN.out]
            have hox : mflat ((outFrom (tick t) 0 (tick t).ports).take t.ports.length) = mflat (out (tick t)) := by
              rw [HS.out]; congr 1
              exact List.take_of_length_le (by rw [outFrom_len, HLN.out]; exact Nat.le_refl _)
            have HON := Kept.mk hon
            have HOX := Kept.mk hox
            clear hon hox
            obtain ⟨A5, k5, rfl⟩ := own_slice HO.out
            have k0 := HT.out.b0.cell 0 (v := .int .i64 t.node) rfl
            have k1 := HT.out.b0.cell 1 (v := .int .i64 t.inc) rfl
            have k3 := HT.out.b0.cell 3 (v := .int .i64 t.dead) rfl
            have k4 := HT.out.b0.cell 4 (v := .slice (some ⟨gq, 0, none⟩) t.ports.length kq) rfl
            have k6 := HT.out.b0.cell 6 (v := .int .i64 vr) rfl
            have z0 := HT.out.b2.cell 0 (v := .int .i64 0) rfl
            have z1 := HT.out.b2.cell 1 (v := .int .i64 0) rfl
            have z2 := HT.out.b2.cell 2 (v := .int .i64 0) rfl
            have z3 := HT.out.b2.cell 3 (v := .int .i64 0) rfl
            have z4 := HT.out.b2.cell 4 (v := .slice none 0 0) rfl
            have z5 := HT.out.b2.cell 5 (v := .int .i64 0) rfl
            have z6 := HT.out.b2.cell 6 (v := .int .i64 0) rfl
            have zf0 := HT.out.b2.free 0
            have zf1 := HT.out.b2.free 1
            have zf2 := HT.out.b2.free 2
            have zf3 := HT.out.b2.free 3
            have zf4 := HT.out.b2.free 4
            have zf5 := HT.out.b2.free 5
            have zf6 := HT.out.b2.free 6
            have lz0 := HT.out.b0.lt
            have lz2 := HT.out.b2.lt
            go_wp2_with fail
            obtain ⟨W9, hW9, hB9, hO9⟩ := fill7 HT.out.b2 (.int .i64 t.node) (.int .i64 t.inc) (.int .i64 t.every) (.int .i64 t.dead) (.slice (some ⟨gq, 0, none⟩) t.ports.length kq) (.int .i64 (t.ticks + 1)) (.int .i64 vr)
            rw [← hW9]
            have s0 := hB9.cell 0 (v := .int .i64 t.node) rfl
            have s1 := hB9.cell 1 (v := .int .i64 t.inc) rfl
            have s2 := hB9.cell 2 (v := .int .i64 t.every) rfl
            have s3 := hB9.cell 3 (v := .int .i64 t.dead) rfl
            have s4 := hB9.cell 4 (v := .slice (some ⟨gq, 0, none⟩) t.ports.length kq) rfl
            have s5 := hB9.cell 5 (v := .int .i64 (t.ticks + 1)) rfl
            have s6 := hB9.cell 6 (v := .int .i64 vr) rfl
            have HEND := HT.out.end_ HVR.out HO.out hO9 HON.out HOX.out n1 n8
            exact bodyPost_ret (v := .tuple #[.agg #[.int .i64 t.node, .int .i64 t.inc, .int .i64 t.every, .int .i64 t.dead, .slice (some ⟨gq, 0, none⟩) t.ports.length kq, .int .i64 (t.ticks + 1), .int .i64 vr], .slice A5 t.ports.length k5]) (by simp [results, Try.results20, go_sem, s0, s1, s2, s3, s4, s5, s6]) rfl HEND
      · have hs' : (t.ticks % t.every == 0) = false := by simpa using hs
        have HS := Kept.mk (show out (tick t) = [] by unfold out; rw [sends_iff, if_neg (by simpa using hs)])
        have HON : Kept (0 = (out (tick t)).length) := ⟨by rw [HS.out]; rfl⟩
        have HOX : Kept ([] = mflat (out (tick t))) := ⟨by rw [HS.out]; rfl⟩
        go_wp2_with fail
        go_loopw [5, 6] (fun v5 v6 wr => v5 = .slice none 0 0 ∧ v6 = .int .i64 0 ∧ Kept (TK w wr t gq kq (t.ticks + 1) vr (rports (tick t)))) (fun _ v6 _ => 0)
        case atStart => exact ⟨rfl, rfl, HW⟩
        case round =>
          clear HW c2 c5 c4 l0 lg
          obtain ⟨rfl, rfl, HT⟩ := hrel
          have c2 := HT.out.b0.cell 2 (v := .int .i64 t.every) rfl
          have c4 := HT.out.b0.cell 4 (v := .slice (some ⟨gq, 0, none⟩) t.ports.length kq) rfl
          have c5 := HT.out.b0.cell 5 (v := .int .i64 (t.ticks + 1)) rfl
          have l0 := HT.out.b0.lt
          have k0 := HT.out.b0.cell 0 (v := .int .i64 t.node) rfl
          have k1 := HT.out.b0.cell 1 (v := .int .i64 t.inc) rfl
          have k3 := HT.out.b0.cell 3 (v := .int .i64 t.dead) rfl
          have k4 := HT.out.b0.cell 4 (v := .slice (some ⟨gq, 0, none⟩) t.ports.length kq) rfl
          have k6 := HT.out.b0.cell 6 (v := .int .i64 vr) rfl
          have z0 := HT.out.b2.cell 0 (v := .int .i64 0) rfl
          have z1 := HT.out.b2.cell 1 (v := .int .i64 0) rfl
          have z2 := HT.out.b2.cell 2 (v := .int .i64 0) rfl
          have z3 := HT.out.b2.cell 3 (v := .int .i64 0) rfl
          have z4 := HT.out.b2.cell 4 (v := .slice none 0 0) rfl
          have z5 := HT.out.b2.cell 5 (v := .int .i64 0) rfl
          have z6 := HT.out.b2.cell 6 (v := .int .i64 0) rfl
          have zf0 := HT.out.b2.free 0
          have zf1 := HT.out.b2.free 1
          have zf2 := HT.out.b2.free 2
          have zf3 := HT.out.b2.free 3
          have zf4 := HT.out.b2.free 4
          have zf5 := HT.out.b2.free 5
          have zf6 := HT.out.b2.free 6
          have lz0 := HT.out.b0.lt
          have lz2 := HT.out.b2.lt
          go_wp2_with fail
          obtain ⟨W9, hW9, hB9, hO9⟩ := fill7 HT.out.b2 (.int .i64 t.node) (.int .i64 t.inc) (.int .i64 t.every) (.int .i64 t.dead) (.slice (some ⟨gq, 0, none⟩) t.ports.length kq) (.int .i64 (t.ticks + 1)) (.int .i64 vr)
          rw [← hW9]
          have s0 := hB9.cell 0 (v := .int .i64 t.node) rfl
          have s1 := hB9.cell 1 (v := .int .i64 t.inc) rfl
          have s2 := hB9.cell 2 (v := .int .i64 t.every) rfl
          have s3 := hB9.cell 3 (v := .int .i64 t.dead) rfl
          have s4 := hB9.cell 4 (v := .slice (some ⟨gq, 0, none⟩) t.ports.length kq) rfl
          have s5 := hB9.cell 5 (v := .int .i64 (t.ticks + 1)) rfl
          have s6 := hB9.cell 6 (v := .int .i64 vr) rfl
          have HEND := HT.out.end_ HVR.out (World.ownsRow_nil _ _ _ _) hO9 HON.out HOX.out n1 n8
          exact bodyPost_ret (v := .tuple #[.agg #[.int .i64 t.node, .int .i64 t.inc, .int .i64 t.every, .int .i64 t.dead, .slice (some ⟨gq, 0, none⟩) t.ports.length kq, .int .i64 (t.ticks + 1), .int .i64 vr], .slice none 0 0]) (by simp [results, Try.results20, go_sem, s0, s1, s2, s3, s4, s5, s6]) rfl HEND
end Go.Proofs.Ytkbnacboianjkaa
