/- Segment: the walk of the reference's Split (printed by gen_rsplit.py). -/
import Derived.Test.YtdhajibegkkeiaaSplit
import Derived.Test.YtdhajibegkkeiaaEnc
namespace Go.Proofs.Ytdhajibegkkeiaa
set_option linter.unusedVariables false
set_option linter.unusedSimpArgs false
open Go.RowKit
theorem last_piece {n m k : Nat} (hm : 0 < m) (hk : k < pieces n m) : (min ((k + 1) * m) n = n) ↔ k + 1 = pieces n m := by
  constructor
  · intro h
    rcases Nat.lt_or_ge (k + 1) (pieces n m) with h1 | h1
    · have := pieces_lo hm h1
      omega
    · omega
  · intro h
    have := pieces_hi n hm
    rw [← h] at this
    omega
def RSplits (w : World) (d : List Int) (off : Int) (m : Nat) (last : Bool) (e : Ending) (w' : World) : Prop :=
  ∃ v ps, e = .returned v ∧ OwnL w' w.heap.size v (splitK d off m last (nP d.length m last) (nP d.length m last)) ps ∧ Below w.heap.size w w'
theorem own_fresh {w w2 : World} {B sz n : Nat} {e : TypeId} {v : Value} {xs : List Value} (h : w.ownsRow B e sz v n xs) {o : Obj} (hg : (w.alloc o).grownBy w2 (some w.heap.size)) : w2.ownsRow B e sz v n xs :=
  own_move h fun g hgv => by
    have hl := (h.lt g hgv).2
    exact (hg.block g (by rw [World.size_alloc]; omega) (fun e => by have := Option.some.inj e; omega)).trans (Below.heap_alloc w o g hl)
theorem OwnL.fresh {w w2 : World} {B : Nat} {v : Value} {L : List Seg} {ps : List PSeg} (h : OwnL w B v L ps) {o : Obj} (hg : (w.alloc o).grownBy w2 (some w.heap.size)) : OwnL w2 B v L ps :=
  ⟨h.eq, own_fresh h.row hg, fun p hp => ⟨own_fresh (h.seg p hp).1 hg, (h.seg p hp).2⟩⟩
theorem rend {w wr : World} {d : List Int} {off : Int} {m N k f : Nat} {last : Bool} {v : Value} {ps : List PSeg} (hN : N = pieces d.length m) (hm : 0 < m) (hk : k ≤ N) (hf : f = min (k * m) d.length) (hge : d.length ≤ f) (hc : d.length = 0 → last = false)
    (h : OwnL wr w.heap.size v (splitK d off m last N k) ps) (hb : Below w.heap.size w wr) : RSplits w d off m last (.returned v) wr := by
  have hkN : k = N := by
    rcases Nat.lt_or_ge k N with h1 | h1
    · have := pieces_lo hm (by rw [← hN]; exact h1 : k < pieces d.length m)
      omega
    · omega
  have hn : nP d.length m last = N := by
    unfold nP
    rw [← hN]
    rw [if_neg]
    rintro ⟨h0, h1⟩
    have := pieces_hi d.length hm
    rw [← hN, h0] at this
    have h2 := hc (by omega)
    rw [h2] at h1
    cases h1
  subst hkN
  exact ⟨v, ps, rfl, by rw [hn]; exact h, hb⟩
theorem nP_zero {m : Nat} (hm : 0 < m) : nP 0 m true = 1 := by
  have : pieces 0 m = 0 := by unfold pieces; exact Nat.div_eq_of_lt (by omega)
  unfold nP; rw [this]; rfl
set_option maxRecDepth 100000 in
set_option maxHeartbeats 8000000 in
theorem rsplit_c (d : List Int) (A : Option Addr) (kap : Nat) (off : Int) (m : Nat) (last : Bool) (w : World) (B : Nat) (hr : Reads w B 1 A d.length (bv d)) (hby : Bytes d) (hkap : d.length ≤ kap) (hmax : kap ≤ maxLen) (hB : B ≤ w.heap.size) (hn : d.length ≤ 2000) (hb : badB d.length off m = false) :
    Calls Try.prog 19 #[.slice A d.length kap, .int .i64 off, .int .i64 m, .bool last] w (RSplits w d off m last) := by
  obtain ⟨jj, hjj, hy0, hy1, hy2⟩ := info_parts info24
  obtain ⟨ii, hii, hz0, hz1, hz2⟩ := info_parts info5
  unfold maxLen at hmax
  have HR := Kept.mk hr
  have HBY := Kept.mk hby
  have hcase : 1 ≤ m ∧ m ≤ 64 ∧ 0 ≤ off ∧ off ≤ 1099511627776 - (d.length : Int) := by
    simp only [badB, Bool.or_eq_false_iff, decide_eq_false_iff_not] at hb
    omega
  obtain ⟨y1, y2, y3, y4⟩ := hcase
  clear hr hby hb
  have z0 : (0 : Int) ≤ d.length := by omega
  have z1 : (d.length : Int) ≤ 2000 := by omega
  have z2 : (1 : Int) ≤ m := by omega
  have z3 : (m : Int) ≤ 64 := by omega
  obtain ⟨N, HN⟩ : ∃ N, Kept (N = pieces d.length m) := ⟨_, ⟨rfl⟩⟩
  have hN0 : N ≤ 2063 := by
    rw [HN.out]; unfold pieces
    exact Nat.le_trans (Nat.div_le_self _ _) (by omega)
  go_enter Try.func19, Try.ntmps19
  go_wp2_with fail
  go_loopw [9, 10] (fun v9 v10 wr => ∃ (k f : Nat) (ps : List PSeg), k ≤ N ∧ f ≤ d.length ∧ v10 = .int .i64 f ∧ Kept (f = min (k * m) d.length) ∧ Kept (OwnL wr w.heap.size v9 (splitK d off m last N k) ps) ∧ Kept (Below w.heap.size w wr)) (fun _ v10 _ => d.length - (intOf v10).toNat)
  case atStart => exact ⟨0, 0, [], by omega, by omega, rfl, ⟨by omega⟩, ⟨⟨rfl, World.ownsRow_nil _ _ _ _, fun p hp => by simp at hp⟩⟩, ⟨Below.refl _ _⟩⟩
  case round =>
    obtain ⟨k, f, ps, hk, hfl, rfl, HF0, HL, HD⟩ := hrel
    by_cases hlt : f < d.length
    · have hkN : k < N := by
        rcases Nat.lt_or_ge k N with h1 | h1
        · exact h1
        · obtain rfl : k = N := by omega
          have h2 := pieces_hi d.length (m := m) y1
          rw [← HN.out] at h2
          have := HF0.out
          omega
      have HLO : Kept (k * m < d.length) := ⟨pieces_lo y1 (by rw [← HN.out]; exact hkN)⟩
      have HF : Kept (k * m = f) := ⟨by have h1 := HF0.out; have h2 := HLO.out; omega⟩
      obtain ⟨t, HT⟩ : ∃ t, Kept (min ((k + 1) * m) d.length = t) := ⟨_, ⟨rfl⟩⟩
      have hg0 : (k + 1) * m = f + m := by rw [Nat.succ_mul, HF.out]
      have htt : t = if d.length < f + m then d.length else f + m := by rw [← HT.out, hg0]; split <;> omega
      have htl : t ≤ d.length := by rw [htt]; split <;> omega
      have hft : f < t := by rw [htt]; split <;> omega
      have HLP : Kept (t = d.length ↔ k + 1 = N) := ⟨by have := last_piece y1 (by rw [← HN.out]; exact hkN : k < pieces d.length m); rw [HT.out, ← HN.out] at this; exact this⟩
      have hte : (if (d.length : Int) < f + m then (d.length : Int) else (f : Int) + m) = t := by rw [htt]; split <;> split <;> omega
      have HTE := Kept.mk hte
      obtain ⟨A', HA'⟩ : ∃ A', Kept (A' = if kap = f then A else A.map fun x => x.add f) := ⟨_, ⟨rfl⟩⟩
      have HRD : Kept (Reads (wr.alloc (.cells #[] 5)) B 1 A' (t - f) (bv ((d.take t).drop f))) := ⟨by
        have := ((HR.out.below ((HD.out.alloc HD.out.size (.cells #[] 5)).mono hB)).take_ htl).cut (k := f) (by omega) (by omega : t ≤ kap)
        rw [HA'.out, bv_drop, bv_take]
        simpa using this⟩
      have hsl := fun w => run_mid (n := d.length) w (by omega : f ≤ t) (by omega : t ≤ kap) HA'.out
      have hsl2 := fun w => run_mid2 (n := d.length) w (by omega : f ≤ t) (by omega : t ≤ kap) HA'.out
      have HPL : Kept (ps.length = k) := ⟨by rw [← segs_len, HL.out.eq, splitK_len]⟩
      have hpl : ps.length ≤ 2063 := by rw [HPL.out]; omega
      have HSV := Kept.mk (segI_val d off m last N k f t HF.out HT.out htl)
      have HSN := Kept.mk (splitK_next d off m last N k)
      have HBZ := HD.out.size
      have HO0 : Kept ((wr.alloc (.cells #[] 5)).ownsRow w.heap.size 5 1 (.slice (some ⟨wr.heap.size, 0, none⟩) 0 0) 0 []) := ⟨World.ownsRow_lit (base := w.heap.size) (e := 5) (size := 1) wr #[] 0 HBZ (by unfold maxLen; omega) rfl⟩
      clear htt hg0 hte
      by_cases hge : (d.length : Int) < f + m
      · obtain rfl : d.length = t := by have := HTE.out; rw [if_pos hge] at this; omega
        have tok1 : True := trivial
        cases last
        · have HLX : Kept ((false && decide (k + 1 = N)) = false) := ⟨rfl⟩
          go_wp2_with (first | (at_builtin; have _t := tok1; go_must (refine wpList_append_any _ rfl (.tmp 26) (.tmp 30) 22 rfl w.heap.size 5 ii _ 1 1 Try.underlying22 hii hz0 hz1 hz2 rfl (by omega) _ 0 [] rfl HO0.out B A' (d.length - f) _ (bv ((d.take d.length).drop f)) rfl HRD.out (bv_one _) (by unfold maxLen; omega) (by omega) (by simp only [World.size_alloc]; omega) ?_); intro v2 w2 ho2 hg2 _; obtain ⟨A2, m2, rfl⟩ := own_slice ho2; simp only [Nat.zero_add, List.nil_append] at ho2; have HO2 := Kept.mk ho2; have HL2 := Kept.mk (HL.out.fresh hg2); have HD2 : Kept (Below w.heap.size w w2) := ⟨(HD.out.alloc HBZ _).grown hg2 (by simp only [World.size_alloc]; omega) (fun g hg => (HO0.out.lt g hg).1)⟩; have HSS := Kept.mk (lit_seg (w := w2) (p := ⟨⟨off + (f : Nat), (d.take d.length).drop f, false⟩, A2, m2⟩)); clear ho2 hg2 tok1 _t) | (at_builtin; go_must (refine wpList_append_any _ rfl (.tmp 22) (.tmp 40) 34 rfl w.heap.size 24 jj _ 3 40 Try.underlying34 hjj hy0 hy1 hy2 rfl (by omega) _ ps.length (scells ps) rfl (HL2.out.row.alloc _) _ (some ⟨w2.heap.size, 0, none⟩) 1 1 (scells [⟨⟨off + (f : Nat), (d.take d.length).drop f, false⟩, A2, m2⟩]) rfl (by have := HSS.out; rw [mid_len d htl, Nat.zero_add] at *; exact this) scells_one (by unfold maxLen; omega) (by omega) (by have := HD2.out.size; simp only [World.size_alloc]; omega) ?_); intro v3 w3 ho3 hg3 _; have HL3 := Kept.mk (HL2.out.add (p := ⟨⟨off + (f : Nat), (d.take d.length).drop f, false⟩, A2, m2⟩) ⟨by rw [mid_len d htl]; exact HO2.out, (HBY.out.take _).drop _⟩ _ hg3 ho3); have HD3 : Kept (Below w.heap.size w w3) := ⟨(HD2.out.alloc HD2.out.size _).grown hg3 (by have := HD2.out.size; simp only [World.size_alloc]; omega) (fun g hg => (HL2.out.row.lt g hg).1)⟩; clear ho3 hg3))
          go_roundw
          case rel => exact ⟨k + 1, d.length, _, by omega, by omega, rfl, ⟨HT.out.symm⟩, ⟨by rw [HSN.out, HSV.out, HLX.out]; exact HL3.out⟩, HD3⟩
          case measure => simp [intOf]; omega
        · have HLX : Kept ((true && decide (k + 1 = N)) = true) := ⟨by have := HLP.out.1 rfl; simp [this]⟩
          go_wp2_with (first | (at_builtin; have _t := tok1; go_must (refine wpList_append_any _ rfl (.tmp 26) (.tmp 30) 22 rfl w.heap.size 5 ii _ 1 1 Try.underlying22 hii hz0 hz1 hz2 rfl (by omega) _ 0 [] rfl HO0.out B A' (d.length - f) _ (bv ((d.take d.length).drop f)) rfl HRD.out (bv_one _) (by unfold maxLen; omega) (by omega) (by simp only [World.size_alloc]; omega) ?_); intro v2 w2 ho2 hg2 _; obtain ⟨A2, m2, rfl⟩ := own_slice ho2; simp only [Nat.zero_add, List.nil_append] at ho2; have HO2 := Kept.mk ho2; have HL2 := Kept.mk (HL.out.fresh hg2); have HD2 : Kept (Below w.heap.size w w2) := ⟨(HD.out.alloc HBZ _).grown hg2 (by simp only [World.size_alloc]; omega) (fun g hg => (HO0.out.lt g hg).1)⟩; have HSS := Kept.mk (lit_seg (w := w2) (p := ⟨⟨off + (f : Nat), (d.take d.length).drop f, true⟩, A2, m2⟩)); clear ho2 hg2 tok1 _t) | (at_builtin; go_must (refine wpList_append_any _ rfl (.tmp 22) (.tmp 40) 34 rfl w.heap.size 24 jj _ 3 40 Try.underlying34 hjj hy0 hy1 hy2 rfl (by omega) _ ps.length (scells ps) rfl (HL2.out.row.alloc _) _ (some ⟨w2.heap.size, 0, none⟩) 1 1 (scells [⟨⟨off + (f : Nat), (d.take d.length).drop f, true⟩, A2, m2⟩]) rfl (by have := HSS.out; rw [mid_len d htl, Nat.zero_add] at *; exact this) scells_one (by unfold maxLen; omega) (by omega) (by have := HD2.out.size; simp only [World.size_alloc]; omega) ?_); intro v3 w3 ho3 hg3 _; have HL3 := Kept.mk (HL2.out.add (p := ⟨⟨off + (f : Nat), (d.take d.length).drop f, true⟩, A2, m2⟩) ⟨by rw [mid_len d htl]; exact HO2.out, (HBY.out.take _).drop _⟩ _ hg3 ho3); have HD3 : Kept (Below w.heap.size w w3) := ⟨(HD2.out.alloc HD2.out.size _).grown hg3 (by have := HD2.out.size; simp only [World.size_alloc]; omega) (fun g hg => (HL2.out.row.lt g hg).1)⟩; clear ho3 hg3))
          go_roundw
          case rel => exact ⟨k + 1, d.length, _, by omega, by omega, rfl, ⟨HT.out.symm⟩, ⟨by rw [HSN.out, HSV.out, HLX.out]; exact HL3.out⟩, HD3⟩
          case measure => simp [intOf]; omega
      · have hge' : ((f : Int) + m) ≤ d.length := by omega
        have ht9 : (f : Int) + m = t := by have := HTE.out; rw [if_neg hge] at this; omega
        have tok1 : True := trivial
        cases last
        · have HLX : Kept ((false && decide (k + 1 = N)) = false) := ⟨rfl⟩
          go_wp2_with (first | (at_builtin; have _t := tok1; go_must (refine wpList_append_any _ rfl (.tmp 26) (.tmp 30) 22 rfl w.heap.size 5 ii _ 1 1 Try.underlying22 hii hz0 hz1 hz2 rfl (by omega) _ 0 [] rfl HO0.out B A' (t - f) _ (bv ((d.take t).drop f)) rfl HRD.out (bv_one _) (by unfold maxLen; omega) (by omega) (by simp only [World.size_alloc]; omega) ?_); intro v2 w2 ho2 hg2 _; obtain ⟨A2, m2, rfl⟩ := own_slice ho2; simp only [Nat.zero_add, List.nil_append] at ho2; have HO2 := Kept.mk ho2; have HL2 := Kept.mk (HL.out.fresh hg2); have HD2 : Kept (Below w.heap.size w w2) := ⟨(HD.out.alloc HBZ _).grown hg2 (by simp only [World.size_alloc]; omega) (fun g hg => (HO0.out.lt g hg).1)⟩; have HSS := Kept.mk (lit_seg (w := w2) (p := ⟨⟨off + (f : Nat), (d.take t).drop f, false⟩, A2, m2⟩)); clear ho2 hg2 tok1 _t) | (at_builtin; go_must (refine wpList_append_any _ rfl (.tmp 22) (.tmp 40) 34 rfl w.heap.size 24 jj _ 3 40 Try.underlying34 hjj hy0 hy1 hy2 rfl (by omega) _ ps.length (scells ps) rfl (HL2.out.row.alloc _) _ (some ⟨w2.heap.size, 0, none⟩) 1 1 (scells [⟨⟨off + (f : Nat), (d.take t).drop f, false⟩, A2, m2⟩]) rfl (by have := HSS.out; rw [mid_len d htl, Nat.zero_add] at *; exact this) scells_one (by unfold maxLen; omega) (by omega) (by have := HD2.out.size; simp only [World.size_alloc]; omega) ?_); intro v3 w3 ho3 hg3 _; have HL3 := Kept.mk (HL2.out.add (p := ⟨⟨off + (f : Nat), (d.take t).drop f, false⟩, A2, m2⟩) ⟨by rw [mid_len d htl]; exact HO2.out, (HBY.out.take _).drop _⟩ _ hg3 ho3); have HD3 : Kept (Below w.heap.size w w3) := ⟨(HD2.out.alloc HD2.out.size _).grown hg3 (by have := HD2.out.size; simp only [World.size_alloc]; omega) (fun g hg => (HL2.out.row.lt g hg).1)⟩; clear ho3 hg3))
          go_roundw
          case rel => exact ⟨k + 1, t, _, by omega, by omega, rfl, ⟨HT.out.symm⟩, ⟨by rw [HSN.out, HSV.out, HLX.out]; exact HL3.out⟩, HD3⟩
          case measure => simp [intOf]; omega
        · by_cases hkn : k + 1 = N
          · have HLX : Kept ((true && decide (k + 1 = N)) = true) := ⟨by simp [hkn]⟩
            have q1 : ((t : Int) == (d.length : Int)) = true := by have := HLP.out.2 hkn; simp; omega
            clear hkn
            go_wp2_with (first | (at_builtin; have _t := tok1; go_must (refine wpList_append_any _ rfl (.tmp 26) (.tmp 30) 22 rfl w.heap.size 5 ii _ 1 1 Try.underlying22 hii hz0 hz1 hz2 rfl (by omega) _ 0 [] rfl HO0.out B A' (t - f) _ (bv ((d.take t).drop f)) rfl HRD.out (bv_one _) (by unfold maxLen; omega) (by omega) (by simp only [World.size_alloc]; omega) ?_); intro v2 w2 ho2 hg2 _; obtain ⟨A2, m2, rfl⟩ := own_slice ho2; simp only [Nat.zero_add, List.nil_append] at ho2; have HO2 := Kept.mk ho2; have HL2 := Kept.mk (HL.out.fresh hg2); have HD2 : Kept (Below w.heap.size w w2) := ⟨(HD.out.alloc HBZ _).grown hg2 (by simp only [World.size_alloc]; omega) (fun g hg => (HO0.out.lt g hg).1)⟩; have HSS := Kept.mk (lit_seg (w := w2) (p := ⟨⟨off + (f : Nat), (d.take t).drop f, true⟩, A2, m2⟩)); clear ho2 hg2 tok1 _t) | (at_builtin; go_must (refine wpList_append_any _ rfl (.tmp 22) (.tmp 40) 34 rfl w.heap.size 24 jj _ 3 40 Try.underlying34 hjj hy0 hy1 hy2 rfl (by omega) _ ps.length (scells ps) rfl (HL2.out.row.alloc _) _ (some ⟨w2.heap.size, 0, none⟩) 1 1 (scells [⟨⟨off + (f : Nat), (d.take t).drop f, true⟩, A2, m2⟩]) rfl (by have := HSS.out; rw [mid_len d htl, Nat.zero_add] at *; exact this) scells_one (by unfold maxLen; omega) (by omega) (by have := HD2.out.size; simp only [World.size_alloc]; omega) ?_); intro v3 w3 ho3 hg3 _; have HL3 := Kept.mk (HL2.out.add (p := ⟨⟨off + (f : Nat), (d.take t).drop f, true⟩, A2, m2⟩) ⟨by rw [mid_len d htl]; exact HO2.out, (HBY.out.take _).drop _⟩ _ hg3 ho3); have HD3 : Kept (Below w.heap.size w w3) := ⟨(HD2.out.alloc HD2.out.size _).grown hg3 (by have := HD2.out.size; simp only [World.size_alloc]; omega) (fun g hg => (HL2.out.row.lt g hg).1)⟩; clear ho3 hg3))
            go_roundw
            case rel => exact ⟨k + 1, t, _, by omega, by omega, rfl, ⟨HT.out.symm⟩, ⟨by rw [HSN.out, HSV.out, HLX.out]; exact HL3.out⟩, HD3⟩
            case measure => simp [intOf]; omega
          · have HLX : Kept ((true && decide (k + 1 = N)) = false) := ⟨by simp [hkn]⟩
            have q1 : ((t : Int) == (d.length : Int)) = false := beq_false_of_ne (fun e => hkn (HLP.out.1 (by omega)))
            clear hkn
            go_wp2_with (first | (at_builtin; have _t := tok1; go_must (refine wpList_append_any _ rfl (.tmp 26) (.tmp 30) 22 rfl w.heap.size 5 ii _ 1 1 Try.underlying22 hii hz0 hz1 hz2 rfl (by omega) _ 0 [] rfl HO0.out B A' (t - f) _ (bv ((d.take t).drop f)) rfl HRD.out (bv_one _) (by unfold maxLen; omega) (by omega) (by simp only [World.size_alloc]; omega) ?_); intro v2 w2 ho2 hg2 _; obtain ⟨A2, m2, rfl⟩ := own_slice ho2; simp only [Nat.zero_add, List.nil_append] at ho2; have HO2 := Kept.mk ho2; have HL2 := Kept.mk (HL.out.fresh hg2); have HD2 : Kept (Below w.heap.size w w2) := ⟨(HD.out.alloc HBZ _).grown hg2 (by simp only [World.size_alloc]; omega) (fun g hg => (HO0.out.lt g hg).1)⟩; have HSS := Kept.mk (lit_seg (w := w2) (p := ⟨⟨off + (f : Nat), (d.take t).drop f, false⟩, A2, m2⟩)); clear ho2 hg2 tok1 _t) | (at_builtin; go_must (refine wpList_append_any _ rfl (.tmp 22) (.tmp 40) 34 rfl w.heap.size 24 jj _ 3 40 Try.underlying34 hjj hy0 hy1 hy2 rfl (by omega) _ ps.length (scells ps) rfl (HL2.out.row.alloc _) _ (some ⟨w2.heap.size, 0, none⟩) 1 1 (scells [⟨⟨off + (f : Nat), (d.take t).drop f, false⟩, A2, m2⟩]) rfl (by have := HSS.out; rw [mid_len d htl, Nat.zero_add] at *; exact this) scells_one (by unfold maxLen; omega) (by omega) (by have := HD2.out.size; simp only [World.size_alloc]; omega) ?_); intro v3 w3 ho3 hg3 _; have HL3 := Kept.mk (HL2.out.add (p := ⟨⟨off + (f : Nat), (d.take t).drop f, false⟩, A2, m2⟩) ⟨by rw [mid_len d htl]; exact HO2.out, (HBY.out.take _).drop _⟩ _ hg3 ho3); have HD3 : Kept (Below w.heap.size w w3) := ⟨(HD2.out.alloc HD2.out.size _).grown hg3 (by have := HD2.out.size; simp only [World.size_alloc]; omega) (fun g hg => (HL2.out.row.lt g hg).1)⟩; clear ho3 hg3))
            go_roundw
            case rel => exact ⟨k + 1, t, _, by omega, by omega, rfl, ⟨HT.out.symm⟩, ⟨by rw [HSN.out, HSV.out, HLX.out]; exact HL3.out⟩, HD3⟩
            case measure => simp [intOf]; omega
    · have hge : d.length ≤ f := by omega
      obtain rfl : f = d.length := by omega
      have hce : (d.length = 0 ∧ last = true ∧ ((d.length : Int) == 0) = true) ∨ ((d.length = 0 → last = false) ∧ (last = false ∧ ((d.length : Int) == 0) = true ∨ ((d.length : Int) == 0) = false)) := by
        by_cases h0 : d.length = 0
        · cases last
          · right; exact ⟨fun _ => rfl, .inl ⟨rfl, by simp [h0]⟩⟩
          · left; exact ⟨h0, rfl, by simp [h0]⟩
        · right; exact ⟨fun h => absurd h h0, .inr (beq_false_of_ne (by omega))⟩
      rcases hce with ⟨c1, rfl, c3⟩ | ⟨c1, c2⟩
      · have hd0 : d = [] := List.eq_nil_of_length_eq_zero c1
        have HK0 : Kept (k = 0) := ⟨by
          have h1 : N = 0 := by rw [HN.out, c1]; unfold pieces; exact Nat.div_eq_of_lt (by omega)
          omega⟩
        have HC1 := Kept.mk c1
        have HD0 := Kept.mk hd0
        have HPS : Kept (ps = []) := ⟨List.eq_nil_of_length_eq_zero (by rw [← segs_len, HL.out.eq, splitK_len, HK0.out])⟩
        have hpl : ps.length ≤ 2063 := by rw [HPS.out]; simp
        have HSS := Kept.mk (lit_seg (w := wr) (p := ⟨⟨off, [], true⟩, none, 0⟩))
        have HBZ := HD.out.size
        clear c1 hd0 hlt hge
        go_wp2_with (at_builtin; go_must (refine wpList_append_any _ rfl _ _ 34 rfl w.heap.size 24 jj _ 3 40 Try.underlying34 hjj hy0 hy1 hy2 rfl (by omega) _ ps.length (scells ps) rfl (HL.out.row.alloc _) _ (some ⟨wr.heap.size, 0, none⟩) 1 1 (scells [⟨⟨off, [], true⟩, none, 0⟩]) rfl HSS.out scells_one (by unfold maxLen; omega) (by omega) (by simp only [World.size_alloc]; omega) ?_); intro v3 w3 ho3 hg3 _; have HL3 := Kept.mk (HL.out.add (p := ⟨⟨off, [], true⟩, none, 0⟩) ⟨World.ownsRow_nil _ _ _ _, fun x hx => by simp at hx⟩ _ hg3 ho3); have HD3 : Kept (Below w.heap.size w w3) := ⟨(HD.out.alloc HBZ _).grown hg3 (by simp only [World.size_alloc]; omega) (fun g hg => (HL.out.row.lt g hg).1)⟩; clear ho3 hg3)
        go_ret
        refine ⟨_, ps ++ [⟨⟨off, [], true⟩, none, 0⟩], rfl, ?_, HD3.out⟩
        have hz : splitK d off m true N k ++ [⟨off, [], true⟩] = splitK d off m true (nP d.length m true) (nP d.length m true) := by
          rw [HC1.out, nP_zero y1, HK0.out, HD0.out]
          simp [splitK, segI]
        rw [← hz]
        exact HL3.out
      · have HC1 := Kept.mk c1
        clear c1 hlt
        have HFN : Kept (d.length = min (k * m) d.length) := HF0
        rcases c2 with ⟨rfl, c3⟩ | c3
        · go_wp2_with fail
          go_ret
          exact rend HN.out y1 hk HFN.out hge (fun _ => rfl) HL.out HD.out
        · go_wp2_with fail
          go_ret
          exact rend HN.out y1 hk HFN.out hge HC1.out HL.out HD.out
end Go.Proofs.Ytdhajibegkkeiaa
