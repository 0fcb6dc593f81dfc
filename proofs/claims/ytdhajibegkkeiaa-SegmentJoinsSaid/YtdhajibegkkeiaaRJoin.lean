/- Segment: the walk of the reference's Join (printed by gen_rjoin.py). -/
import Derived.Test.YtdhajibegkkeiaaContraB
import Derived.Test.YtdhajibegkkeiaaJoin
import Derived.Test.YtdhajibegkkeiaaGreat
import Derived.Test.YtdhajibegkkeiaaEnc
namespace Go.Proofs.Ytdhajibegkkeiaa
set_option linter.unusedVariables false
set_option linter.unusedSimpArgs false
open Go.RowKit
theorem undrew' {w w1 : World} (h : Below w.drew.heap.size w.drew w1) : Below w.heap.size w w1 := ⟨h.os, h.tape, h.output, h.size, h.block⟩
theorem contra_self (s : Seg) : ¬ Contra s s := by
  rintro (⟨_, h⟩ | ⟨_, h⟩ | ⟨o, x, y, hx, hy, hne⟩)
  · omega
  · omega
  · rw [hx] at hy; injection hy with hy; exact hne hy
theorem contra_symm {s t : Seg} (h : Contra s t) : Contra t s := by
  rcases h with h | h | ⟨o, x, y, hx, hy, hne⟩
  · exact .inr (.inl h)
  · exact .inl h
  · exact .inr (.inr ⟨o, y, x, hy, hx, fun e => hne e.symm⟩)
def NoC (L : List Seg) : Prop := ∀ s ∈ L, ∀ t ∈ L, ¬ Contra s t
theorem noC_nil : NoC [] := fun s hs => by simp at hs
theorem noC_next {l : List Seg} {k : Nat} {s : Seg} (h : NoC (l.take k)) (hs : l[k]? = some s) (hn : ∀ t ∈ l.take k, ¬ Contra s t) : NoC (l.take (k + 1)) := by
  rw [take_next hs]
  intro a ha b hb
  rcases List.mem_append.1 ha with ha1 | ha1 <;> rcases List.mem_append.1 hb with hb1 | hb1
  · exact h a ha1 b hb1
  · obtain rfl := List.mem_singleton.1 hb1
    exact fun hc => hn a ha1 (contra_symm hc)
  · obtain rfl := List.mem_singleton.1 ha1
    exact hn b hb1
  · obtain rfl := List.mem_singleton.1 ha1
    obtain rfl := List.mem_singleton.1 hb1
    exact contra_self _
theorem conf_of {l : List Seg} {s t : Seg} (hs : s ∈ l) (ht : t ∈ l) (h : Contra s t) : Conf l := by
  rcases h with ⟨h1, h2⟩ | ⟨h1, h2⟩ | ⟨o, x, y, hx, hy, hne⟩
  · exact .inr ⟨s, hs, h1, t, ht, h2⟩
  · exact .inr ⟨t, ht, h1, s, hs, h2⟩
  · exact .inl fun ha => hne (ha o x y ⟨s, hs, hx⟩ ⟨t, ht, hy⟩)
theorem not_conf {l : List Seg} (h : NoC l) : ¬ Conf l := by
  rintro (hc | ⟨s, hs, h1, t, ht, h2⟩)
  · refine hc fun o x y ⟨s, hs, hx⟩ ⟨t, ht, hy⟩ => ?_
    exact Classical.byContradiction fun hne => h s hs t ht (.inr (.inr ⟨o, x, y, hx, hy, hne⟩))
  · exact h s hs t ht (.inl ⟨h1, h2⟩)
theorem kn_take {l : List Seg} {i : Nat} {o x : Int} (h : kn (l.take i) o = some x) : kn l o = some x := by
  have := kn_app (l.take i) (l.drop i) o
  rw [List.take_append_drop, h] at this
  exact this
theorem kn_step {l : List Seg} {i : Nat} {s : Seg} {o : Int} (hs : l[i]? = some s) (h : kn (l.take i) o = none) : kn (l.take (i + 1)) o = s.at? o := by
  rw [take_next hs, kn_app, h]
  simp only [kn]
  cases s.at? o <;> rfl
theorem kn_neg {L : List Seg} {o : Int} (hb : ∀ s ∈ L, Bytes s.data) (h : (kn L o).getD (-1) < 0) : kn L o = none := by
  cases hk : kn L o with
  | none => rfl
  | some x =>
    rw [hk] at h
    obtain ⟨s, hs, hx⟩ := kn_has hk
    obtain ⟨g1, g2, g3⟩ := at_iff.1 hx
    have := (hb s hs).at_ (i := (o - s.off).toNat) (by unfold Seg.fin at g2; omega)
    rw [g3] at this
    simp at h
    omega
theorem kn_pos {L : List Seg} {o f : Int} (h : f = (kn L o).getD (-1)) (h0 : 0 ≤ f) : kn L o = some f := by
  cases hk : kn L o with
  | none => rw [hk] at h; simp at h; omega
  | some x => rw [hk] at h; rw [h]; rfl
theorem dat_snoc {L : List Seg} {lo f : Int} {j : Nat} (h : kn L (lo + (j : Int)) = some f) : dat L lo (j + 1) = dat L lo j ++ [f] := by
  simp [dat, List.range_succ, h]
set_option maxRecDepth 100000 in
set_option maxHeartbeats 8000000 in
theorem rjoin_c (l : List PSeg) (A : Option Addr) (kap : Nat) (w : World) (B : Nat) (h : SegsAt w B A l) (hB : B ≤ w.heap.size) (hmo : Modest l) :
    Calls Try.prog 26 #[.slice A l.length kap] w (Joins w (segs l)) := by
  obtain ⟨ii, hii, hz0, hz1, hz2⟩ := info_parts info5
  have hn := hmo.1
  have HMO := Kept.mk hmo
  have HS := Kept.mk h
  clear h hmo
  by_cases h0 : l.length = 0
  · obtain rfl : l = [] := List.eq_nil_of_length_eq_zero h0
    have hJ := Kept.mk (JoinIs.none_ (l := []) rfl)
    clear h0 HS HMO hn
    show Calls Try.prog 26 #[.slice A 0 kap] w (Joins w [])
    go_enter Try.func26, Try.ntmps26
    go_wp2_with fail
    exact bodyPost_ret (v := .tuple #[.slice none 0 0, .int .i64 0, .bool false, .int .i64 0]) (by simp [results, Try.results26, go_sem]) rfl (joins_err hJ.out (Below.refl _ _))
  · have h1 : 0 < l.length := by omega
    have hq0 : ((l.length : Int) == 0) = false := beq_false_of_ne (by omega)
    have HL : Kept ((segs l).length = l.length) := ⟨segs_len l⟩
    have HNE : Kept (segs l ≠ []) := ⟨fun e => by have := HL.out; rw [e] at this; simp at this; omega⟩
    obtain ⟨p0, b0, off0, hp0, rfl, -, hb0, c0, -, -, -⟩ := HS.out.at_ h1
    have HP0 := Kept.mk (segs_get hp0)
    clear hp0 h0
    go_enter Try.func26, Try.ntmps26
    go_wp2_with fail
    go_loopw [6] (fun v6 wr => ∃ k : Nat, k ≤ l.length ∧ v6 = .int .i64 k ∧ Kept (AllV ((segs l).take k)) ∧ Kept (Below w.heap.size w wr)) (fun v6 _ => l.length - (intOf v6).toNat)
    case atStart => exact ⟨0, by omega, rfl, ⟨by intro s hs; simp at hs⟩, ⟨Below.refl _ _⟩⟩
    case round =>
      obtain ⟨k, hk, rfl, HV, HD⟩ := hrel
      by_cases hlt : k < l.length
      · obtain ⟨p, b, off, hp, e, -, hb, c1, c2, c3, hsg⟩ := (HS.out.below (HD.out.mono hB)).at_ hlt
        obtain ⟨rfl, rfl⟩ : b0 = b ∧ off0 = off := by injection e with e; injection e with e1 e2; exact ⟨e1, e2⟩
        have HP := Kept.mk (segs_get hp)
        have HM := Kept.mk (HS.out.seg p (List.mem_of_getElem? hp))
        clear hp hsg e
        go_wp2_with fail
        refine (refValid_c p.s p.A p.kap _ (Nat.le_trans HM.out.le HM.out.max)).mono ?_
        rintro e w1 ⟨rfl, hb1⟩
        have HD1 : Kept (Below w.heap.size w w1) := ⟨join HD.out hb1⟩
        clear hb1
        by_cases hv : validB p.s = true
        · rw [hv]
          have HV1 := Kept.mk (allV_next HV.out HP.out hv)
          clear hv
          go_wp2_with fail
          go_roundw
          case rel => exact ⟨k + 1, by omega, by go_num, HV1, HD1⟩
          case measure => simp [intOf]; omega
        · have hv' : validB p.s = false := by simpa using hv
          rw [hv']
          have HJ := Kept.mk (JoinIs.bad (l := segs l) (by rw [HL.out]; omega) (not_allV HP.out hv'))
          clear hv hv'
          go_wp2_with fail
          exact bodyPost_ret (v := .tuple #[.slice none 0 0, .int .i64 0, .bool false, .int .i64 1]) (by simp [results, Try.results26, go_sem]) rfl (joins_err HJ.out HD1.out)
      · obtain rfl : k = l.length := by omega
        have HVA : Kept (AllV (segs l)) := ⟨by have := HV.out; rwa [List.take_of_length_le (by rw [HL.out]; exact Nat.le_refl _)] at this⟩
        clear HV
        have c0' := (HD.out.cell (p := ⟨b0, off0, none⟩) hb0).trans (by simpa using c0)
        have y0 := (valid_iff.1 (HVA.out _ (List.mem_of_getElem? HP0.out))).1
        have y1 := (valid_iff.1 (HVA.out _ (List.mem_of_getElem? HP0.out))).2.2
        clear hlt
        go_wp2_with fail
        go_quiet (fail)
        go_wp2_with fail
        go_loopw [7, 8, 9, 10] (fun v7 v8 v9 v10 wr => ∃ (i : Nat) (lo hi : Int), i ≤ l.length ∧ v7 = .int .i64 lo ∧ v8 = .int .i64 hi ∧ Kept (v9 = .bool (anyL ((segs l).take i))) ∧ v10 = .int .i64 i ∧ 0 ≤ lo ∧ lo ≤ 1099511627776 ∧ 0 ≤ hi ∧ hi ≤ 1099511627776 ∧ Kept (lo = lo0 p0.s.off ((segs l).take i)) ∧ Kept (hi = hi0 p0.s.off ((segs l).take i)) ∧ Kept (NoC ((segs l).take i)) ∧ Kept (Below w.heap.size w wr)) (fun _ _ _ v10 _ => l.length - (intOf v10).toNat)
        case atStart => exact ⟨0, p0.s.off, p0.s.off, by omega, rfl, rfl, ⟨rfl⟩, rfl, y0, by omega, y0, by omega, ⟨rfl⟩, ⟨rfl⟩, ⟨noC_nil⟩, ⟨dN HD.out _⟩⟩
        case round =>
          clear HD c0' c0
          obtain ⟨i, lo, hi, hi9, rfl, rfl, H9, rfl, l1, l2, g1, g2, HLO, HHI, HNC, HD⟩ := hrel
          obtain ⟨bl, HBL⟩ : ∃ bl, Kept (bl = anyL ((segs l).take i)) := ⟨_, ⟨rfl⟩⟩
          obtain rfl := H9.out.trans (by rw [← HBL.out])
          clear H9
          by_cases hlt : i < l.length
          · obtain ⟨p, b, off, hp, e, -, hb, c1, c2, c3, hsg⟩ := (HS.out.below (HD.out.mono hB)).at_ hlt
            obtain ⟨rfl, rfl⟩ : b0 = b ∧ off0 = off := by injection e with e; injection e with e1 e2; exact ⟨e1, e2⟩
            have HP := Kept.mk (segs_get hp)
            have HM := Kept.mk (HS.out.seg p (List.mem_of_getElem? hp))
            clear hp hsg e
            have hvp := HVA.out _ (List.mem_of_getElem? HP.out)
            obtain ⟨x1, x2, x3⟩ := valid_iff.1 hvp
            have HVP := Kept.mk hvp
            have x2' : (p.s.data.length : Int) ≤ 64 := by omega
            have x4 : (0 : Int) ≤ p.s.data.length := by omega
            have hi8 : (i : Int) < l.length := by omega
            have HC1 : Kept (∀ W, Below w.heap.size w W → W.cell? ⟨b0, off0 + i * 3, none⟩ = some (.int .i64 p.s.off) ∧ W.cell? ⟨b0, off0 + i * 3 + 1, none⟩ = some (.slice p.A p.s.data.length p.kap) ∧ W.cell? ⟨b0, off0 + i * 3 + 2, none⟩ = some (.bool p.s.last)) := ⟨fun W hW => by
              have hx : ∀ j, W.cell? ⟨b0, off0 + i * 3 + j, none⟩ = wr.cell? ⟨b0, off0 + i * 3 + j, none⟩ := fun j => (hW.cell (p := ⟨b0, off0 + i * 3 + j, none⟩) hb0).trans (HD.out.cell (p := ⟨b0, off0 + i * 3 + j, none⟩) hb0).symm
              exact ⟨(hx 0).trans c1, (hx 1).trans c2, (hx 2).trans c3⟩⟩
            clear hvp c1 c2 c3
            go_wp2_with fail
            go_loopw [11] (fun v11 wr => ∃ k : Nat, k ≤ i ∧ v11 = .int .i64 k ∧ Kept (∀ t ∈ (segs l).take k, ¬ Contra p.s t) ∧ Kept (Below w.heap.size w wr)) (fun v11 _ => i - (intOf v11).toNat)
            case atStart => exact ⟨0, by omega, rfl, ⟨fun t ht => by simp at ht⟩, HD⟩
            case round =>
              clear HD
              obtain ⟨k, hk2, rfl, HNT, HD⟩ := hrel
              obtain ⟨c1, c2, c3⟩ := HC1.out wr HD.out
              by_cases hlt2 : k < i
              · obtain ⟨q, b', off', hq, e, -, hb', d1, d2, d3, hsg⟩ := (HS.out.below (HD.out.mono hB)).at_ (k := k) (by omega)
                obtain ⟨rfl, rfl⟩ : b0 = b' ∧ off0 = off' := by injection e with e; injection e with e1 e2; exact ⟨e1, e2⟩
                have HQ := Kept.mk (segs_get hq)
                have HMQ := Kept.mk (HS.out.seg q (List.mem_of_getElem? hq))
                have HVQ := Kept.mk (HVA.out _ (List.mem_of_getElem? HQ.out))
                have hk8 : (k : Int) < l.length := by omega
                have hk7 : k < l.length := by omega
                clear hq hsg e
                go_wp2_with fail
                go_region_held3 (fun w' => (w'.cell? ⟨b0, off0 + i * 3, none⟩ = some (.int .i64 p.s.off) ∧ w'.cell? ⟨b0, off0 + i * 3 + 1, none⟩ = some (.slice p.A p.s.data.length p.kap) ∧ w'.cell? ⟨b0, off0 + i * 3 + 2, none⟩ = some (.bool p.s.last)) ∧ (w'.cell? ⟨b0, off0 + k * 3, none⟩ = some (.int .i64 q.s.off) ∧ w'.cell? ⟨b0, off0 + k * 3 + 1, none⟩ = some (.slice q.A q.s.data.length q.kap) ∧ w'.cell? ⟨b0, off0 + k * 3 + 2, none⟩ = some (.bool q.s.last))) (first | (go_keep; done) | exact ⟨⟨kk1, kk2, kk3⟩, ⟨kk4, kk5, kk6⟩⟩) (first | (go_at_call 30; go_must (refine (contra_c p q _ (((HM.out.more hB).new_ HD.out).new_ ((Below.refl _ _).drew)) (((HMQ.out.more hB).new_ HD.out).new_ ((Below.refl _ _).drew)) HVP.out HVQ.out).mono ?_); rintro e w1 ⟨cc, rfl, hcc, hb1⟩; have HD1 : Kept (Below w.heap.size w w1) := ⟨join HD.out (undrew' hb1)⟩; have HCC := Kept.mk hcc; obtain ⟨kk1, kk2, kk3⟩ := HC1.out w1 HD1.out; have kk4 := (hb1.cell (p := ⟨b0, off0 + k * 3, none⟩) hb').trans d1; have kk5 := (hb1.cell (p := ⟨b0, off0 + k * 3 + 1, none⟩) hb').trans d2; have kk6 := (hb1.cell (p := ⟨b0, off0 + k * 3 + 2, none⟩) hb').trans d3; clear hb1 hcc))
                cases cc
                · have HNT2 : Kept (∀ t ∈ (segs l).take (k + 1), ¬ Contra p.s t) := ⟨by
                    rw [take_next HQ.out]
                    intro t ht
                    rcases List.mem_append.1 ht with ht1 | ht1
                    · exact HNT.out t ht1
                    · obtain rfl := List.mem_singleton.1 ht1
                      exact fun hc => absurd (HCC.out.2 hc) (by simp)⟩
                  go_wp2_with fail
                  go_roundw
                  case rel => exact ⟨k + 1, by omega, by go_num, HNT2, HD1⟩
                  case measure => simp [intOf]; omega
                · have HJ := Kept.mk (JoinIs.conf (by rw [HL.out]; omega) HVA.out HNE.out (conf_of (List.mem_of_getElem? HP.out) (List.mem_of_getElem? HQ.out) (HCC.out.1 rfl)))
                  go_wp2_with fail
                  exact bodyPost_ret (v := .tuple #[.slice none 0 0, .int .i64 0, .bool false, .int .i64 3]) (by simp [results, Try.results26, go_sem]) rfl (joins_err HJ.out HD1.out)
              · obtain rfl : k = i := by omega
                have HNC2 := Kept.mk (noC_next HNC.out HP.out HNT.out)
                have HLO1 : Kept ((if p.s.off < lo then p.s.off else lo) = lo0 p0.s.off ((segs l).take (k + 1))) := ⟨by rw [take_next HP.out, lo0_snoc, ← HLO.out]; split <;> omega⟩
                have HHI1 : Kept ((if hi < p.s.off + p.s.data.length then p.s.off + p.s.data.length else hi) = hi0 p0.s.off ((segs l).take (k + 1))) := ⟨by rw [take_next HP.out, hi0_snoc, ← HHI.out]; unfold Seg.fin; split <;> omega⟩
                clear hlt2
                go_wp2_with fail
                go_quiet (fail)
                obtain ⟨c1, c2, c3⟩ := HC1.out wr HD.out
                cases bl
                all_goals
                  go_wp2_with fail
                  go_roundw
                  case rel => exact ⟨k + 1, _, _, by omega, rfl, rfl, ⟨by rw [take_next HP.out, anyL_snoc, ← HBL.out]; rfl⟩, by go_num, by split <;> omega, by split <;> omega, by split <;> omega, by split <;> omega, HLO1, HHI1, HNC2, ⟨dN HD.out _⟩⟩
                  case measure => simp [intOf]; omega
          · obtain rfl : i = l.length := by omega
            have HTL : Kept ((segs l).take l.length = segs l) := ⟨List.take_of_length_le (by rw [HL.out]; exact Nat.le_refl _)⟩
            rw [HTL.out] at HBL HLO HHI HNC
            have HLOW : Kept (IsLow (segs l) lo) := ⟨by rw [HLO.out]; exact isLow_of (List.mem_of_getElem? HP0.out)⟩
            have HHIGH : Kept (IsHigh (segs l) hi) := ⟨by rw [HHI.out]; exact isHigh_of ⟨_, List.mem_of_getElem? HP0.out, by unfold Seg.fin; omega⟩⟩
            have hlh : lo ≤ hi := by
              have h1 := HLOW.out.2 _ (List.mem_of_getElem? HP0.out)
              have h2 := HHIGH.out.2 _ (List.mem_of_getElem? HP0.out)
              unfold Seg.fin at h2
              omega
            obtain ⟨n, hnn⟩ : ∃ n : Nat, hi = lo + n := ⟨(hi - lo).toNat, by omega⟩
            subst hnn
            have hn4 : n ≤ 4000 := by
              obtain ⟨s, hs, e1⟩ := HLOW.out.1
              obtain ⟨t, ht, e2⟩ := HHIGH.out.1
              have v1 := HVA.out s hs
              have v2 := HVA.out t ht
              simp only [segs, List.mem_map] at hs ht
              obtain ⟨p, hp, rfl⟩ := hs
              obtain ⟨q, hq, rfl⟩ := ht
              have := HMO.out.2.2 p hp q hq v1 v2
              omega
            have HNCF : Kept (¬ Conf (segs l)) := ⟨not_conf HNC.out⟩
            have HBY : Kept (∀ s ∈ segs l, Bytes s.data) := ⟨fun s hs => by
              simp only [segs, List.mem_map] at hs
              obtain ⟨p, hp, rfl⟩ := hs
              exact (HS.out.seg p hp).by_⟩
            clear HLO HHI HNC hlt
            go_wp2_with fail
            go_loopw [12, 13] (fun v12 v13 wr => ∃ j : Nat, j ≤ n ∧ v13 = .int .i64 (lo + (j : Int)) ∧ Kept (∀ j', j' < j → (kn (segs l) (lo + (j' : Int))).isSome = true) ∧ Kept (wr.ownsRow w.heap.size 5 1 v12 j (bv (dat (segs l) lo j))) ∧ Kept (Below w.heap.size w wr)) (fun _ v13 _ => (lo + n - intOf v13).toNat)
            case atStart => exact ⟨0, by omega, by simp, ⟨fun j' h => absurd h (by omega)⟩, ⟨World.ownsRow_nil _ _ _ _⟩, HD⟩
            case round =>
              clear HD
              obtain ⟨j, hj, rfl, HSO, HO, HD⟩ := hrel
              by_cases hlt : j < n
              · have hlt8 : (j : Int) < n := by omega
                obtain ⟨A2, k2, rfl⟩ := own_slice HO.out
                go_wp2_with fail
                go_loopw [14, 15] (fun v14 v15 wr => ∃ (i : Nat) (f : Int), i ≤ l.length ∧ v14 = .int .i64 f ∧ v15 = .int .i64 i ∧ -1 ≤ f ∧ f ≤ 255 ∧ Kept (f = (kn ((segs l).take i) (lo + (j : Int))).getD (-1)) ∧ Kept (wr.ownsRow w.heap.size 5 1 (.slice A2 j k2) j (bv (dat (segs l) lo j))) ∧ Kept (Below w.heap.size w wr)) (fun _ v15 _ => l.length - (intOf v15).toNat)
                case atStart => exact ⟨0, -1, by omega, rfl, rfl, by omega, by omega, ⟨rfl⟩, HO, HD⟩
                case round =>
                  clear HO HD
                  obtain ⟨i, f, hi9, rfl, rfl, f1, f2, HF, HO, HD⟩ := hrel
                  by_cases hlt2 : i < l.length
                  · by_cases hf : f < 0
                    · obtain ⟨p, b, off, hp, e, -, hb, c1, c2, c3, hsg⟩ := (HS.out.below (HD.out.mono hB)).at_ hlt2
                      obtain ⟨rfl, rfl⟩ : b0 = b ∧ off0 = off := by injection e with e; injection e with e1 e2; exact ⟨e1, e2⟩
                      have HP := Kept.mk (segs_get hp)
                      have HM := Kept.mk (HS.out.seg p (List.mem_of_getElem? hp))
                      have HVP := Kept.mk (HVA.out _ (List.mem_of_getElem? HP.out))
                      have HNO : Kept (kn ((segs l).take i) (lo + (j : Int)) = none) := ⟨kn_neg (fun s hs => HBY.out s (List.mem_of_mem_take hs)) (by rw [← HF.out]; exact hf)⟩
                      have HF2 : Kept (byteP p.s (lo + (j : Int)) = (kn ((segs l).take (i + 1)) (lo + (j : Int))).getD (-1)) := ⟨by rw [kn_step HP.out HNO.out]; rfl⟩
                      obtain ⟨y, HY⟩ : ∃ y, Kept (byteP p.s (lo + (j : Int)) = y) := ⟨_, ⟨rfl⟩⟩
                      have hyr : -1 ≤ y ∧ y ≤ 255 := by
                        have h := byteP_range HM.out.by_ (lo + (j : Int))
                        rw [HY.out] at h
                        rcases h with h | ⟨h1, h2, _⟩ <;> omega
                      have hi8 : (i : Int) < l.length := by omega
                      clear hp hsg e
                      go_wp2_with (go_at_call 31; go_must (refine (byte_c p (lo + (j : Int)) _ ((HM.out.more hB).new_ HD.out) HVP.out (by omega) (by omega)).mono ?_); rintro e w1 ⟨rfl, hb1⟩; rw [HY.out]; have HD1 := Kept.mk (join HD.out hb1); have HO1 := Kept.mk (own_new HO.out hb1); clear hb1)
                      go_roundw
                      case rel => exact ⟨i + 1, y, by omega, rfl, by go_num, hyr.1, hyr.2, ⟨by rw [← HF2.out, HY.out]⟩, HO1, HD1⟩
                      case measure => simp [intOf]; omega
                    · have HKF : Kept (kn (segs l) (lo + (j : Int)) = some f) := ⟨kn_take (kn_pos HF.out (by omega))⟩
                      have hf0 : 0 ≤ f := by omega
                      have hi8 : (i : Int) < l.length := by omega
                      have HZ := HD.out.size
                      go_wp2_with (at_builtin; go_must (refine wpList_append_any _ rfl _ _ 22 rfl w.heap.size 5 ii _ 1 1 Try.underlying22 hii hz0 hz1 hz2 rfl (by omega) _ j _ rfl (HO.out.alloc _) _ (some ⟨wr.heap.size, 0, none⟩) 1 1 (bv [f]) rfl (lit8_reads wr [f] (by simp)) (bv_one _) (by unfold maxLen; omega) (by omega) (by simp only [World.size_alloc]; omega) ?_); intro v3 w3 ho3 hg3 _; have HO3 := Kept.mk ho3; have HD3 : Kept (Below w.heap.size w w3) := ⟨(HD.out.alloc HZ _).grown hg3 (by simp only [World.size_alloc]; omega) (fun g hg => (HO.out.lt g hg).1)⟩; clear ho3 hg3)
                      go_roundw
                      case rel => exact ⟨j + 1, by omega, by go_num, ⟨fun j' h => by
                        by_cases e : j' = j
                        · subst e; rw [HKF.out]; rfl
                        · exact HSO.out j' (by omega)⟩, ⟨by rw [dat_snoc HKF.out, bv_app]; exact HO3.out⟩, HD3⟩
                      case measure => simp [intOf]; omega
                  · obtain rfl : i = l.length := by omega
                    rw [HTL.out] at HF
                    clear hlt2
                    by_cases hf : f < 0
                    · have HNO : Kept (kn (segs l) (lo + (j : Int)) = none) := ⟨kn_neg HBY.out (by rw [← HF.out]; exact hf)⟩
                      have HJ := Kept.mk (JoinIs.gap (by rw [HL.out]; omega) HVA.out HNE.out HNCF.out HLOW.out HHIGH.out ⟨lo + (j : Int), by omega, by omega, HNO.out⟩)
                      go_wp2_with fail
                      exact bodyPost_ret (v := .tuple #[.slice none 0 0, .int .i64 0, .bool false, .int .i64 4]) (by simp [results, Try.results26, go_sem]) rfl (joins_err HJ.out HD.out)
                    · have HKF : Kept (kn (segs l) (lo + (j : Int)) = some f) := ⟨kn_pos HF.out (by omega)⟩
                      have hf0 : 0 ≤ f := by omega
                      have HZ := HD.out.size
                      go_wp2_with (at_builtin; go_must (refine wpList_append_any _ rfl _ _ 22 rfl w.heap.size 5 ii _ 1 1 Try.underlying22 hii hz0 hz1 hz2 rfl (by omega) _ j _ rfl (HO.out.alloc _) _ (some ⟨wr.heap.size, 0, none⟩) 1 1 (bv [f]) rfl (lit8_reads wr [f] (by simp)) (bv_one _) (by unfold maxLen; omega) (by omega) (by simp only [World.size_alloc]; omega) ?_); intro v3 w3 ho3 hg3 _; have HO3 := Kept.mk ho3; have HD3 : Kept (Below w.heap.size w w3) := ⟨(HD.out.alloc HZ _).grown hg3 (by simp only [World.size_alloc]; omega) (fun g hg => (HO.out.lt g hg).1)⟩; clear ho3 hg3)
                      go_roundw
                      case rel => exact ⟨j + 1, by omega, by go_num, ⟨fun j' h => by
                        by_cases e : j' = j
                        · subst e; rw [HKF.out]; rfl
                        · exact HSO.out j' (by omega)⟩, ⟨by rw [dat_snoc HKF.out, bv_app]; exact HO3.out⟩, HD3⟩
                      case measure => simp [intOf]; omega
              · obtain rfl : j = n := by omega
                have hlt8 : ¬ (j : Int) < j := by omega
                obtain ⟨A2, k2, rfl⟩ := own_slice HO.out
                have HJ := Kept.mk (JoinIs.ok (by rw [HL.out]; omega) HVA.out HNE.out HNCF.out HLOW.out HHIGH.out (data := dat (segs l) lo j) (by rw [dat_len]; omega) (fun i hi => by
                  rw [dat_len] at hi
                  rw [dat_get hi]
                  have := HSO.out i hi
                  cases hk : kn (segs l) (lo + (i : Int)) with
                  | none => rw [hk] at this; cases this
                  | some x => rfl))
                have HBA : Kept (Bytes (dat (segs l) lo j)) := ⟨dat_bytes HBY.out⟩
                clear hlt
                go_wp2_with fail
                exact bodyPost_ret (v := .tuple #[.slice A2 j k2, .int .i64 lo, .bool bl, .int .i64 0]) (by simp [results, Try.results26, go_sem]) rfl ⟨_, _, HJ.out, HBA.out, by rw [HBL.out], by rw [dat_len]; exact HO.out, HD.out⟩
end Go.Proofs.Ytdhajibegkkeiaa
