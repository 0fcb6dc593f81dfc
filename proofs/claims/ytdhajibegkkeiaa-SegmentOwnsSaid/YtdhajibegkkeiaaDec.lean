/- Segment: the walk of Decode at the code of a valid segment (printed by gen_dec.py). -/
import Derived.Test.YtdhajibegkkeiaaSplit
import Derived.Test.YtdhajibegkkeiaaEnc
import Derived.Laws.BitsLemmas
namespace Go.Proofs.Ytdhajibegkkeiaa
set_option linter.unusedVariables false
set_option linter.unusedSimpArgs false
open Go.RowKit
theorem i64_or8 {x y : Int} (h0 : 0 ≤ x) (h1 : x % 256 = 0) (h2 : x < 4611686018427387904) (h3 : 0 ≤ y) (h4 : y < 256) : bits .or .i64 x y = x + y :=
  bits_join .i64 62 (by decide) (fun n a b => IntWalk.i64_in n (by have : (2 : Int) ^ 62 = 4611686018427387904 := by decide
                                                                   omega)) 8 x y h0 h1 (by omega) h3 h4 (by omega)
def cutO (o : Int) : Nat → Int
  | 0 => 0
  | 1 => o / 1099511627776
  | 2 => o / 4294967296
  | 3 => o / 16777216
  | 4 => o / 65536
  | 5 => o / 256
  | _ => o
theorem or_next {x y z : Int} (h : x * 256 + y = z) (h0 : 0 ≤ x) (h2 : x < 18014398509481984) (h3 : 0 ≤ y) (h4 : y < 256) : bits .or .i64 (x * 256) y = z := by
  rw [i64_or8 (by omega) (by omega) (by omega) h3 h4]; exact h
theorem own_set1 {w : World} {B n k g o : Nat} {A : Option Addr} {cs : Array Value} {xs : List Value} (h : w.ownsRow B 5 1 (.slice A n k) n xs) (hb : Blk w g 24 cs) (u : Value) : (w.setCell ⟨g, o, none⟩ u).ownsRow B 5 1 (.slice A n k) n xs :=
  own_move h fun g1 hg1 => Below.heap_setCell w ⟨g, o, none⟩ u g1 (fun e => by
    rcases h.2 with ⟨h1, _⟩ | ⟨g2, c1, u1, h1, _, h3, _⟩
    · rw [h1] at hg1; cases hg1
    · rw [h1] at hg1
      injection hg1 with hg1
      have e2 : g2 = g := hg1.trans e
      subst e2
      unfold Blk at hb
      rw [hb] at h3
      injection h3 with h3
      injection h3 with _ h4
      cases h4)
/-- The world of a round. -/
structure DecW (w : World) (x : Int) (l : Bool) (wr : World) : Prop where
  box : Blk wr (w.heap.size + 1) 24 #[.int .i64 x, .slice none 0 0, .bool l]
  res : Blk wr w.heap.size 24 #[.int .i64 0, .slice none 0 0, .bool false]
  below : Below w.heap.size w wr
set_option maxRecDepth 100000 in
set_option maxHeartbeats 8000000 in
theorem decode_c (s : Seg) (A : Option Addr) (kap : Nat) (w : World) (B : Nat) (hr : Reads w B 1 A (8 + s.data.length) (bv (codeP s))) (hB : B ≤ w.heap.size) (hkap : 8 + s.data.length ≤ kap) (hmax : kap ≤ maxLen) (hv : validB s = true) (hby : Bytes s.data) :
    Calls Try.prog 15 #[.slice A (8 + s.data.length) kap] w fun e w' => ∃ p : PSeg, e = .returned (.tuple #[pval p, .int .i64 0]) ∧ p.s = s ∧ OwnS w' w.heap.size p ∧ Below w.heap.size w w' := by
  have HKM := Kept.mk hmax
  unfold maxLen at hmax
  obtain ⟨b, off, rfl, hb, hbw, hc⟩ := hr.spot (by omega) (by omega)
  obtain ⟨x1, x2, x3⟩ := valid_iff.1 hv
  have x4 : (s.data.length : Int) ≤ 64 := by omega
  have x5 : (0 : Int) ≤ s.data.length := by omega
  have x6 : s.off ≤ 1099511627776 := by omega
  have HR := Kept.mk hr
  have HC := Kept.mk hc
  have HV := Kept.mk hv
  have HBY := Kept.mk hby
  clear hr hc hv hby
  have c0 : w.cell? ⟨b, off, none⟩ = some (.int .u8 (if s.last = true then 1 else 0)) := HC.out 0 _ rfl
  have c7 : w.cell? ⟨b, off + 7, none⟩ = some (.int .u8 s.data.length) := HC.out 7 _ rfl
  have hk1 : ¬ kap = 1 := by omega
  have hk8 : (8 : Int) ≤ kap := by omega
  have hk9 : 8 ≤ kap := by omega
  have hbs : b ≠ w.heap.size + 1 := by omega
  have hbs2 : b ≠ w.heap.size := by omega
  rcases hls : s.last with _ | _
  · rw [hls] at c0
    simp only [Bool.false_eq_true, if_false, if_true] at c0
    have HLS := Kept.mk hls
    clear hls
    go_enter Try.func15, Try.ntmps15
    go_wp2_with fail
    go_loopw [29] (fun v29 wr => ∃ i : Nat, i ≤ 6 ∧ v29 = .int .i64 i ∧ Kept (DecW w (cutO s.off i) false wr)) (fun v29 _ => 6 - (intOf v29).toNat)
    case atStart =>
      refine ⟨0, by omega, rfl, ⟨⟨?_, (Blk.new _ _ _).alloc _, ((Below.refl _ _).alloc (Nat.le_refl _) _).alloc (by simp) _⟩⟩⟩
      have := Blk.new (w.alloc (.cells #[.int .i64 0, .slice none 0 0, .bool false] 24)) 24 #[.int .i64 0, .slice none 0 0, .bool false]
      rw [World.size_alloc] at this
      exact this
    case round =>
      obtain ⟨i, hi, rfl, HW⟩ := hrel
      have hcase : i = 0 ∨ i = 1 ∨ i = 2 ∨ i = 3 ∨ i = 4 ∨ i = 5 ∨ i = 6 := by omega
      have hf0 := HW.out.box.free 0
      have hlt := HW.out.box.lt
      rcases hcase with rfl | rfl | rfl | rfl | rfl | rfl | rfl
      · have k0 : wr.cell? ⟨w.heap.size + 1, 0, none⟩ = some (.int .i64 (0)) := HW.out.box.cell 0 rfl
        have d1 : wr.cell? ⟨b, off + 1 + 0, none⟩ = some (.int .u8 (s.off / 1099511627776)) := (HW.out.below.cell (p := ⟨b, off + 1 + 0, none⟩) hbw).trans (HC.out 1 _ rfl)
        have d2 : wr.cell? ⟨b, off + 1, none⟩ = some (.int .u8 (s.off / 1099511627776)) := d1
        have d3 : wr.cell? ⟨b, off + 1, none⟩ = some (.int .u8 (s.off / 1099511627776)) := (HW.out.below.cell (p := ⟨b, off + 1, none⟩) hbw).trans (HC.out 1 _ rfl)
        have e1 : bits .or .i64 (0 * 256) (s.off / 1099511627776) = s.off / 1099511627776 := or_next (by omega) (by omega) (by omega) (by omega) (by omega)
        have e2 : bits .or .i64 0 (s.off / 1099511627776) = s.off / 1099511627776 := e1
        go_wp2_with fail
        go_roundw
        case rel => exact ⟨1, by omega, by go_num, ⟨⟨HW.out.box.to 0 (.int .i64 (s.off / 1099511627776)) rfl, HW.out.res.far (p := ⟨w.heap.size + 1, 0, none⟩) (by show w.heap.size ≠ w.heap.size + 1; omega) _, HW.out.below.setCell (p := ⟨w.heap.size + 1, 0, none⟩) (by show w.heap.size ≤ w.heap.size + 1; omega) _⟩⟩⟩
        case measure => simp [intOf]
      · have k0 : wr.cell? ⟨w.heap.size + 1, 0, none⟩ = some (.int .i64 (s.off / 1099511627776)) := HW.out.box.cell 0 rfl
        have d1 : wr.cell? ⟨b, off + 1 + 1, none⟩ = some (.int .u8 (s.off / 4294967296 % 256)) := (HW.out.below.cell (p := ⟨b, off + 1 + 1, none⟩) hbw).trans (HC.out 2 _ rfl)
        have d2 : wr.cell? ⟨b, off + 1 + 1, none⟩ = some (.int .u8 (s.off / 4294967296 % 256)) := d1
        have d3 : wr.cell? ⟨b, off + 2, none⟩ = some (.int .u8 (s.off / 4294967296 % 256)) := (HW.out.below.cell (p := ⟨b, off + 2, none⟩) hbw).trans (HC.out 2 _ rfl)
        have e1 : bits .or .i64 (s.off / 1099511627776 * 256) (s.off / 4294967296 % 256) = s.off / 4294967296 := or_next (by omega) (by omega) (by omega) (by omega) (by omega)
        skip
        go_wp2_with fail
        go_roundw
        case rel => exact ⟨2, by omega, by go_num, ⟨⟨HW.out.box.to 0 (.int .i64 (s.off / 4294967296)) rfl, HW.out.res.far (p := ⟨w.heap.size + 1, 0, none⟩) (by show w.heap.size ≠ w.heap.size + 1; omega) _, HW.out.below.setCell (p := ⟨w.heap.size + 1, 0, none⟩) (by show w.heap.size ≤ w.heap.size + 1; omega) _⟩⟩⟩
        case measure => simp [intOf]
      · have k0 : wr.cell? ⟨w.heap.size + 1, 0, none⟩ = some (.int .i64 (s.off / 4294967296)) := HW.out.box.cell 0 rfl
        have d1 : wr.cell? ⟨b, off + 1 + 2, none⟩ = some (.int .u8 (s.off / 16777216 % 256)) := (HW.out.below.cell (p := ⟨b, off + 1 + 2, none⟩) hbw).trans (HC.out 3 _ rfl)
        have d2 : wr.cell? ⟨b, off + 1 + 2, none⟩ = some (.int .u8 (s.off / 16777216 % 256)) := d1
        have d3 : wr.cell? ⟨b, off + 3, none⟩ = some (.int .u8 (s.off / 16777216 % 256)) := (HW.out.below.cell (p := ⟨b, off + 3, none⟩) hbw).trans (HC.out 3 _ rfl)
        have e1 : bits .or .i64 (s.off / 4294967296 * 256) (s.off / 16777216 % 256) = s.off / 16777216 := or_next (by omega) (by omega) (by omega) (by omega) (by omega)
        skip
        go_wp2_with fail
        go_roundw
        case rel => exact ⟨3, by omega, by go_num, ⟨⟨HW.out.box.to 0 (.int .i64 (s.off / 16777216)) rfl, HW.out.res.far (p := ⟨w.heap.size + 1, 0, none⟩) (by show w.heap.size ≠ w.heap.size + 1; omega) _, HW.out.below.setCell (p := ⟨w.heap.size + 1, 0, none⟩) (by show w.heap.size ≤ w.heap.size + 1; omega) _⟩⟩⟩
        case measure => simp [intOf]
      · have k0 : wr.cell? ⟨w.heap.size + 1, 0, none⟩ = some (.int .i64 (s.off / 16777216)) := HW.out.box.cell 0 rfl
        have d1 : wr.cell? ⟨b, off + 1 + 3, none⟩ = some (.int .u8 (s.off / 65536 % 256)) := (HW.out.below.cell (p := ⟨b, off + 1 + 3, none⟩) hbw).trans (HC.out 4 _ rfl)
        have d2 : wr.cell? ⟨b, off + 1 + 3, none⟩ = some (.int .u8 (s.off / 65536 % 256)) := d1
        have d3 : wr.cell? ⟨b, off + 4, none⟩ = some (.int .u8 (s.off / 65536 % 256)) := (HW.out.below.cell (p := ⟨b, off + 4, none⟩) hbw).trans (HC.out 4 _ rfl)
        have e1 : bits .or .i64 (s.off / 16777216 * 256) (s.off / 65536 % 256) = s.off / 65536 := or_next (by omega) (by omega) (by omega) (by omega) (by omega)
        skip
        go_wp2_with fail
        go_roundw
        case rel => exact ⟨4, by omega, by go_num, ⟨⟨HW.out.box.to 0 (.int .i64 (s.off / 65536)) rfl, HW.out.res.far (p := ⟨w.heap.size + 1, 0, none⟩) (by show w.heap.size ≠ w.heap.size + 1; omega) _, HW.out.below.setCell (p := ⟨w.heap.size + 1, 0, none⟩) (by show w.heap.size ≤ w.heap.size + 1; omega) _⟩⟩⟩
        case measure => simp [intOf]
      · have k0 : wr.cell? ⟨w.heap.size + 1, 0, none⟩ = some (.int .i64 (s.off / 65536)) := HW.out.box.cell 0 rfl
        have d1 : wr.cell? ⟨b, off + 1 + 4, none⟩ = some (.int .u8 (s.off / 256 % 256)) := (HW.out.below.cell (p := ⟨b, off + 1 + 4, none⟩) hbw).trans (HC.out 5 _ rfl)
        have d2 : wr.cell? ⟨b, off + 1 + 4, none⟩ = some (.int .u8 (s.off / 256 % 256)) := d1
        have d3 : wr.cell? ⟨b, off + 5, none⟩ = some (.int .u8 (s.off / 256 % 256)) := (HW.out.below.cell (p := ⟨b, off + 5, none⟩) hbw).trans (HC.out 5 _ rfl)
        have e1 : bits .or .i64 (s.off / 65536 * 256) (s.off / 256 % 256) = s.off / 256 := or_next (by omega) (by omega) (by omega) (by omega) (by omega)
        skip
        go_wp2_with fail
        go_roundw
        case rel => exact ⟨5, by omega, by go_num, ⟨⟨HW.out.box.to 0 (.int .i64 (s.off / 256)) rfl, HW.out.res.far (p := ⟨w.heap.size + 1, 0, none⟩) (by show w.heap.size ≠ w.heap.size + 1; omega) _, HW.out.below.setCell (p := ⟨w.heap.size + 1, 0, none⟩) (by show w.heap.size ≤ w.heap.size + 1; omega) _⟩⟩⟩
        case measure => simp [intOf]
      · have k0 : wr.cell? ⟨w.heap.size + 1, 0, none⟩ = some (.int .i64 (s.off / 256)) := HW.out.box.cell 0 rfl
        have d1 : wr.cell? ⟨b, off + 1 + 5, none⟩ = some (.int .u8 (s.off % 256)) := (HW.out.below.cell (p := ⟨b, off + 1 + 5, none⟩) hbw).trans (HC.out 6 _ rfl)
        have d2 : wr.cell? ⟨b, off + 1 + 5, none⟩ = some (.int .u8 (s.off % 256)) := d1
        have d3 : wr.cell? ⟨b, off + 6, none⟩ = some (.int .u8 (s.off % 256)) := (HW.out.below.cell (p := ⟨b, off + 6, none⟩) hbw).trans (HC.out 6 _ rfl)
        have e1 : bits .or .i64 (s.off / 256 * 256) (s.off % 256) = s.off := or_next (by omega) (by omega) (by omega) (by omega) (by omega)
        skip
        go_wp2_with fail
        go_roundw
        case rel => exact ⟨6, by omega, by go_num, ⟨⟨HW.out.box.to 0 (.int .i64 (s.off)) rfl, HW.out.res.far (p := ⟨w.heap.size + 1, 0, none⟩) (by show w.heap.size ≠ w.heap.size + 1; omega) _, HW.out.below.setCell (p := ⟨w.heap.size + 1, 0, none⟩) (by show w.heap.size ≤ w.heap.size + 1; omega) _⟩⟩⟩
        case measure => simp [intOf]
      · obtain ⟨A', HA'⟩ : ∃ A', Kept (A' = if kap = 8 then some (⟨b, off, none⟩ : Addr) else (some (⟨b, off, none⟩ : Addr)).map fun x => x.add 8) := ⟨_, ⟨rfl⟩⟩
        have hsl : ∀ w, (Instr.slice 22 (.slice (some ⟨b, off, none⟩) (8 + s.data.length) kap) (some (.int .i64 8)) none none).run Try.prog w = .ok (.slice A' s.data.length (kap - 8)) w := fun w => by
          have := run_tail (i := 8) (n := 8 + s.data.length) w (by omega) HA'.out
          rw [Nat.add_sub_cancel_left] at this
          exact this
        have hsl2 : ∀ w, (Instr.sliceAt 22 (.slice (some ⟨b, off, none⟩) (8 + s.data.length) kap) (some (.int .i64 8)) none none).run Try.prog w = .ok (.slice A' s.data.length (kap - 8)) w := fun w => by
          have := run_tail2 (i := 8) (n := 8 + s.data.length) w (by omega) HA'.out
          rw [Nat.add_sub_cancel_left] at this
          exact this
        have HRD : Kept (Reads wr B 1 A' s.data.length (bv s.data)) := ⟨by
          have := (HR.out.below (HW.out.below.mono hB)).cut (k := 8) (by omega) hkap
          rw [Nat.add_sub_cancel_left] at this
          rw [HA'.out]
          have e : (bv (codeP s)).drop (8 * 1) = bv s.data := by simp [bv, codeP, headP]
          rw [e] at this
          simpa using this⟩
        have HVL : Kept (validB ⟨s.off, s.data, false⟩ = true) := ⟨by simpa [validB] using HV.out⟩
        have hwz := HW.out.below.size
        go_wp2_with (first | (go_at_call 27; go_must (refine (clone_n A' _ s.data.length s.data _ B rfl HRD.out (by omega) (by omega)).mono ?_); rintro e w2 ⟨v2, rfl, ho2, hb2⟩; obtain ⟨A2, m2, rfl⟩ := own_slice ho2; have HO2 := Kept.mk ho2; have HB2 := Kept.mk (HW.out.box.new_ hb2); have HR2 := Kept.mk (HW.out.res.new_ hb2); have HJ2 := Kept.mk (join HW.out.below hb2); have k0 := HB2.out.cell 0 (v := .int .i64 s.off) rfl; have k1 := HB2.out.cell 1 (v := .slice none 0 0) rfl; have k2 := HB2.out.cell 2 (v := .bool false) rfl; have f1 := HB2.out.free 1; have hl2 := HB2.out.lt; have d0 := (HJ2.out.cell (p := ⟨b, off, none⟩) hbw).trans c0; have d7 := (HJ2.out.cell (p := ⟨b, off + 7, none⟩) hbw).trans c7; clear c0 c7 ho2 hb2) | (go_at_call 14; go_must (refine (valid_c ⟨s.off, s.data, false⟩ A2 m2 _ (by unfold maxLen; show s.data.length ≤ _; omega)).mono ?_); rintro e w3 ⟨rfl, hb3⟩; rw [HVL.out]; have HB3 := Kept.mk ((HB2.out.to 1 (.slice A2 s.data.length m2) rfl).new_ hb3); have HR3 := Kept.mk ((HR2.out.far (p := ⟨w.heap.size + 1, 1, none⟩) (by show w.heap.size ≠ w.heap.size + 1; omega) (.slice A2 s.data.length m2)).new_ hb3); have HO3 := Kept.mk (own_new (own_set1 HO2.out HB2.out (.slice A2 s.data.length m2)) hb3); have HJ3 := Kept.mk (join (HJ2.out.setCell (p := ⟨w.heap.size + 1, 1, none⟩) (by show w.heap.size ≤ w.heap.size + 1; omega) (.slice A2 s.data.length m2)) hb3); clear k0 k1 k2 f1 d0 d7 hb3; have k0 := HB3.out.cell 0 (v := .int .i64 s.off) rfl; have k1 := HB3.out.cell 1 (v := .slice A2 s.data.length m2) rfl; have k2 := HB3.out.cell 2 (v := .bool false) rfl; have r0 := HR3.out.cell 0 (v := .int .i64 0) rfl; have r1 := HR3.out.cell 1 (v := .slice none 0 0) rfl; have r2 := HR3.out.cell 2 (v := .bool false) rfl; have rf0 := HR3.out.free 0; have rf1 := HR3.out.free 1; have rf2 := HR3.out.free 2; have n1 : w.heap.size ≠ w.heap.size + 1 := (by omega); have n2 : w.heap.size + 1 ≠ w.heap.size := (by omega)))
        have HF := ((HR3.out.set_ 0 (.int .i64 s.off)).set_ 1 (.slice A2 s.data.length m2)).to 2 (.bool false) (cs' := #[.int .i64 s.off, .slice A2 s.data.length m2, .bool false]) (by simp)
        have HOF := own_set1 (own_set1 (own_set1 HO3.out HR3.out (o := 0) (.int .i64 s.off)) (HR3.out.set_ 0 (.int .i64 s.off)) (o := 1) (.slice A2 s.data.length m2)) ((HR3.out.set_ 0 (.int .i64 s.off)).set_ 1 (.slice A2 s.data.length m2)) (o := 2) (.bool false)
        have HJF := ((HJ3.out.setCell (p := ⟨w.heap.size, 0, none⟩) (Nat.le_refl _) (.int .i64 s.off)).setCell (p := ⟨w.heap.size, 1, none⟩) (Nat.le_refl _) (.slice A2 s.data.length m2)).setCell (p := ⟨w.heap.size, 2, none⟩) (Nat.le_refl _) (.bool false)
        generalize World.setCell _ _ _ = WF at *
        have v0 := HF.cell 0 (v := .int .i64 s.off) rfl
        have v1 := HF.cell 1 (v := .slice A2 s.data.length m2) rfl
        have v2 := HF.cell 2 (v := .bool false) rfl
        exact bodyPost_ret (v := .tuple #[.agg #[.int .i64 s.off, .slice A2 s.data.length m2, .bool false], .int .i64 0]) (by simp [results, Try.results15, go_sem, v0, v1, v2]) rfl ⟨⟨s, A2, m2⟩, by unfold pval; rw [HLS.out], rfl, ⟨own_base HOF (by omega), HBY.out⟩, HJF⟩
  · rw [hls] at c0
    simp only [Bool.false_eq_true, if_false, if_true] at c0
    have HLS := Kept.mk hls
    clear hls
    go_enter Try.func15, Try.ntmps15
    go_wp2_with fail
    go_loopw [29] (fun v29 wr => ∃ i : Nat, i ≤ 6 ∧ v29 = .int .i64 i ∧ Kept (DecW w (cutO s.off i) true wr)) (fun v29 _ => 6 - (intOf v29).toNat)
    case atStart =>
      refine ⟨0, by omega, rfl, ⟨⟨?_, (Blk.new _ _ _).alloc _, ((Below.refl _ _).alloc (Nat.le_refl _) _).alloc (by simp) _⟩⟩⟩
      have := Blk.new (w.alloc (.cells #[.int .i64 0, .slice none 0 0, .bool false] 24)) 24 #[.int .i64 0, .slice none 0 0, .bool true]
      rw [World.size_alloc] at this
      exact this
    case round =>
      obtain ⟨i, hi, rfl, HW⟩ := hrel
      have hcase : i = 0 ∨ i = 1 ∨ i = 2 ∨ i = 3 ∨ i = 4 ∨ i = 5 ∨ i = 6 := by omega
      have hf0 := HW.out.box.free 0
      have hlt := HW.out.box.lt
      rcases hcase with rfl | rfl | rfl | rfl | rfl | rfl | rfl
      · have k0 : wr.cell? ⟨w.heap.size + 1, 0, none⟩ = some (.int .i64 (0)) := HW.out.box.cell 0 rfl
        have d1 : wr.cell? ⟨b, off + 1 + 0, none⟩ = some (.int .u8 (s.off / 1099511627776)) := (HW.out.below.cell (p := ⟨b, off + 1 + 0, none⟩) hbw).trans (HC.out 1 _ rfl)
        have d2 : wr.cell? ⟨b, off + 1, none⟩ = some (.int .u8 (s.off / 1099511627776)) := d1
        have d3 : wr.cell? ⟨b, off + 1, none⟩ = some (.int .u8 (s.off / 1099511627776)) := (HW.out.below.cell (p := ⟨b, off + 1, none⟩) hbw).trans (HC.out 1 _ rfl)
        have e1 : bits .or .i64 (0 * 256) (s.off / 1099511627776) = s.off / 1099511627776 := or_next (by omega) (by omega) (by omega) (by omega) (by omega)
        have e2 : bits .or .i64 0 (s.off / 1099511627776) = s.off / 1099511627776 := e1
        go_wp2_with fail
        go_roundw
        case rel => exact ⟨1, by omega, by go_num, ⟨⟨HW.out.box.to 0 (.int .i64 (s.off / 1099511627776)) rfl, HW.out.res.far (p := ⟨w.heap.size + 1, 0, none⟩) (by show w.heap.size ≠ w.heap.size + 1; omega) _, HW.out.below.setCell (p := ⟨w.heap.size + 1, 0, none⟩) (by show w.heap.size ≤ w.heap.size + 1; omega) _⟩⟩⟩
        case measure => simp [intOf]
      · have k0 : wr.cell? ⟨w.heap.size + 1, 0, none⟩ = some (.int .i64 (s.off / 1099511627776)) := HW.out.box.cell 0 rfl
        have d1 : wr.cell? ⟨b, off + 1 + 1, none⟩ = some (.int .u8 (s.off / 4294967296 % 256)) := (HW.out.below.cell (p := ⟨b, off + 1 + 1, none⟩) hbw).trans (HC.out 2 _ rfl)
        have d2 : wr.cell? ⟨b, off + 1 + 1, none⟩ = some (.int .u8 (s.off / 4294967296 % 256)) := d1
        have d3 : wr.cell? ⟨b, off + 2, none⟩ = some (.int .u8 (s.off / 4294967296 % 256)) := (HW.out.below.cell (p := ⟨b, off + 2, none⟩) hbw).trans (HC.out 2 _ rfl)
        have e1 : bits .or .i64 (s.off / 1099511627776 * 256) (s.off / 4294967296 % 256) = s.off / 4294967296 := or_next (by omega) (by omega) (by omega) (by omega) (by omega)
        skip
        go_wp2_with fail
        go_roundw
        case rel => exact ⟨2, by omega, by go_num, ⟨⟨HW.out.box.to 0 (.int .i64 (s.off / 4294967296)) rfl, HW.out.res.far (p := ⟨w.heap.size + 1, 0, none⟩) (by show w.heap.size ≠ w.heap.size + 1; omega) _, HW.out.below.setCell (p := ⟨w.heap.size + 1, 0, none⟩) (by show w.heap.size ≤ w.heap.size + 1; omega) _⟩⟩⟩
        case measure => simp [intOf]
      · have k0 : wr.cell? ⟨w.heap.size + 1, 0, none⟩ = some (.int .i64 (s.off / 4294967296)) := HW.out.box.cell 0 rfl
        have d1 : wr.cell? ⟨b, off + 1 + 2, none⟩ = some (.int .u8 (s.off / 16777216 % 256)) := (HW.out.below.cell (p := ⟨b, off + 1 + 2, none⟩) hbw).trans (HC.out 3 _ rfl)
        have d2 : wr.cell? ⟨b, off + 1 + 2, none⟩ = some (.int .u8 (s.off / 16777216 % 256)) := d1
        have d3 : wr.cell? ⟨b, off + 3, none⟩ = some (.int .u8 (s.off / 16777216 % 256)) := (HW.out.below.cell (p := ⟨b, off + 3, none⟩) hbw).trans (HC.out 3 _ rfl)
        have e1 : bits .or .i64 (s.off / 4294967296 * 256) (s.off / 16777216 % 256) = s.off / 16777216 := or_next (by omega) (by omega) (by omega) (by omega) (by omega)
        skip
        go_wp2_with fail
        go_roundw
        case rel => exact ⟨3, by omega, by go_num, ⟨⟨HW.out.box.to 0 (.int .i64 (s.off / 16777216)) rfl, HW.out.res.far (p := ⟨w.heap.size + 1, 0, none⟩) (by show w.heap.size ≠ w.heap.size + 1; omega) _, HW.out.below.setCell (p := ⟨w.heap.size + 1, 0, none⟩) (by show w.heap.size ≤ w.heap.size + 1; omega) _⟩⟩⟩
        case measure => simp [intOf]
      · have k0 : wr.cell? ⟨w.heap.size + 1, 0, none⟩ = some (.int .i64 (s.off / 16777216)) := HW.out.box.cell 0 rfl
        have d1 : wr.cell? ⟨b, off + 1 + 3, none⟩ = some (.int .u8 (s.off / 65536 % 256)) := (HW.out.below.cell (p := ⟨b, off + 1 + 3, none⟩) hbw).trans (HC.out 4 _ rfl)
        have d2 : wr.cell? ⟨b, off + 1 + 3, none⟩ = some (.int .u8 (s.off / 65536 % 256)) := d1
        have d3 : wr.cell? ⟨b, off + 4, none⟩ = some (.int .u8 (s.off / 65536 % 256)) := (HW.out.below.cell (p := ⟨b, off + 4, none⟩) hbw).trans (HC.out 4 _ rfl)
        have e1 : bits .or .i64 (s.off / 16777216 * 256) (s.off / 65536 % 256) = s.off / 65536 := or_next (by omega) (by omega) (by omega) (by omega) (by omega)
        skip
        go_wp2_with fail
        go_roundw
        case rel => exact ⟨4, by omega, by go_num, ⟨⟨HW.out.box.to 0 (.int .i64 (s.off / 65536)) rfl, HW.out.res.far (p := ⟨w.heap.size + 1, 0, none⟩) (by show w.heap.size ≠ w.heap.size + 1; omega) _, HW.out.below.setCell (p := ⟨w.heap.size + 1, 0, none⟩) (by show w.heap.size ≤ w.heap.size + 1; omega) _⟩⟩⟩
        case measure => simp [intOf]
      · have k0 : wr.cell? ⟨w.heap.size + 1, 0, none⟩ = some (.int .i64 (s.off / 65536)) := HW.out.box.cell 0 rfl
        have d1 : wr.cell? ⟨b, off + 1 + 4, none⟩ = some (.int .u8 (s.off / 256 % 256)) := (HW.out.below.cell (p := ⟨b, off + 1 + 4, none⟩) hbw).trans (HC.out 5 _ rfl)
        have d2 : wr.cell? ⟨b, off + 1 + 4, none⟩ = some (.int .u8 (s.off / 256 % 256)) := d1
        have d3 : wr.cell? ⟨b, off + 5, none⟩ = some (.int .u8 (s.off / 256 % 256)) := (HW.out.below.cell (p := ⟨b, off + 5, none⟩) hbw).trans (HC.out 5 _ rfl)
        have e1 : bits .or .i64 (s.off / 65536 * 256) (s.off / 256 % 256) = s.off / 256 := or_next (by omega) (by omega) (by omega) (by omega) (by omega)
        skip
        go_wp2_with fail
        go_roundw
        case rel => exact ⟨5, by omega, by go_num, ⟨⟨HW.out.box.to 0 (.int .i64 (s.off / 256)) rfl, HW.out.res.far (p := ⟨w.heap.size + 1, 0, none⟩) (by show w.heap.size ≠ w.heap.size + 1; omega) _, HW.out.below.setCell (p := ⟨w.heap.size + 1, 0, none⟩) (by show w.heap.size ≤ w.heap.size + 1; omega) _⟩⟩⟩
        case measure => simp [intOf]
      · have k0 : wr.cell? ⟨w.heap.size + 1, 0, none⟩ = some (.int .i64 (s.off / 256)) := HW.out.box.cell 0 rfl
        have d1 : wr.cell? ⟨b, off + 1 + 5, none⟩ = some (.int .u8 (s.off % 256)) := (HW.out.below.cell (p := ⟨b, off + 1 + 5, none⟩) hbw).trans (HC.out 6 _ rfl)
        have d2 : wr.cell? ⟨b, off + 1 + 5, none⟩ = some (.int .u8 (s.off % 256)) := d1
        have d3 : wr.cell? ⟨b, off + 6, none⟩ = some (.int .u8 (s.off % 256)) := (HW.out.below.cell (p := ⟨b, off + 6, none⟩) hbw).trans (HC.out 6 _ rfl)
        have e1 : bits .or .i64 (s.off / 256 * 256) (s.off % 256) = s.off := or_next (by omega) (by omega) (by omega) (by omega) (by omega)
        skip
        go_wp2_with fail
        go_roundw
        case rel => exact ⟨6, by omega, by go_num, ⟨⟨HW.out.box.to 0 (.int .i64 (s.off)) rfl, HW.out.res.far (p := ⟨w.heap.size + 1, 0, none⟩) (by show w.heap.size ≠ w.heap.size + 1; omega) _, HW.out.below.setCell (p := ⟨w.heap.size + 1, 0, none⟩) (by show w.heap.size ≤ w.heap.size + 1; omega) _⟩⟩⟩
        case measure => simp [intOf]
      · obtain ⟨A', HA'⟩ : ∃ A', Kept (A' = if kap = 8 then some (⟨b, off, none⟩ : Addr) else (some (⟨b, off, none⟩ : Addr)).map fun x => x.add 8) := ⟨_, ⟨rfl⟩⟩
        have hsl : ∀ w, (Instr.slice 22 (.slice (some ⟨b, off, none⟩) (8 + s.data.length) kap) (some (.int .i64 8)) none none).run Try.prog w = .ok (.slice A' s.data.length (kap - 8)) w := fun w => by
          have := run_tail (i := 8) (n := 8 + s.data.length) w (by omega) HA'.out
          rw [Nat.add_sub_cancel_left] at this
          exact this
        have hsl2 : ∀ w, (Instr.sliceAt 22 (.slice (some ⟨b, off, none⟩) (8 + s.data.length) kap) (some (.int .i64 8)) none none).run Try.prog w = .ok (.slice A' s.data.length (kap - 8)) w := fun w => by
          have := run_tail2 (i := 8) (n := 8 + s.data.length) w (by omega) HA'.out
          rw [Nat.add_sub_cancel_left] at this
          exact this
        have HRD : Kept (Reads wr B 1 A' s.data.length (bv s.data)) := ⟨by
          have := (HR.out.below (HW.out.below.mono hB)).cut (k := 8) (by omega) hkap
          rw [Nat.add_sub_cancel_left] at this
          rw [HA'.out]
          have e : (bv (codeP s)).drop (8 * 1) = bv s.data := by simp [bv, codeP, headP]
          rw [e] at this
          simpa using this⟩
        have HVL : Kept (validB ⟨s.off, s.data, true⟩ = true) := ⟨by simpa [validB] using HV.out⟩
        have hwz := HW.out.below.size
        go_wp2_with (first | (go_at_call 27; go_must (refine (clone_n A' _ s.data.length s.data _ B rfl HRD.out (by omega) (by omega)).mono ?_); rintro e w2 ⟨v2, rfl, ho2, hb2⟩; obtain ⟨A2, m2, rfl⟩ := own_slice ho2; have HO2 := Kept.mk ho2; have HB2 := Kept.mk (HW.out.box.new_ hb2); have HR2 := Kept.mk (HW.out.res.new_ hb2); have HJ2 := Kept.mk (join HW.out.below hb2); have k0 := HB2.out.cell 0 (v := .int .i64 s.off) rfl; have k1 := HB2.out.cell 1 (v := .slice none 0 0) rfl; have k2 := HB2.out.cell 2 (v := .bool true) rfl; have f1 := HB2.out.free 1; have hl2 := HB2.out.lt; have d0 := (HJ2.out.cell (p := ⟨b, off, none⟩) hbw).trans c0; have d7 := (HJ2.out.cell (p := ⟨b, off + 7, none⟩) hbw).trans c7; clear c0 c7 ho2 hb2) | (go_at_call 14; go_must (refine (valid_c ⟨s.off, s.data, true⟩ A2 m2 _ (by unfold maxLen; show s.data.length ≤ _; omega)).mono ?_); rintro e w3 ⟨rfl, hb3⟩; rw [HVL.out]; have HB3 := Kept.mk ((HB2.out.to 1 (.slice A2 s.data.length m2) rfl).new_ hb3); have HR3 := Kept.mk ((HR2.out.far (p := ⟨w.heap.size + 1, 1, none⟩) (by show w.heap.size ≠ w.heap.size + 1; omega) (.slice A2 s.data.length m2)).new_ hb3); have HO3 := Kept.mk (own_new (own_set1 HO2.out HB2.out (.slice A2 s.data.length m2)) hb3); have HJ3 := Kept.mk (join (HJ2.out.setCell (p := ⟨w.heap.size + 1, 1, none⟩) (by show w.heap.size ≤ w.heap.size + 1; omega) (.slice A2 s.data.length m2)) hb3); clear k0 k1 k2 f1 d0 d7 hb3; have k0 := HB3.out.cell 0 (v := .int .i64 s.off) rfl; have k1 := HB3.out.cell 1 (v := .slice A2 s.data.length m2) rfl; have k2 := HB3.out.cell 2 (v := .bool true) rfl; have r0 := HR3.out.cell 0 (v := .int .i64 0) rfl; have r1 := HR3.out.cell 1 (v := .slice none 0 0) rfl; have r2 := HR3.out.cell 2 (v := .bool false) rfl; have rf0 := HR3.out.free 0; have rf1 := HR3.out.free 1; have rf2 := HR3.out.free 2; have n1 : w.heap.size ≠ w.heap.size + 1 := (by omega); have n2 : w.heap.size + 1 ≠ w.heap.size := (by omega)))
        have HF := ((HR3.out.set_ 0 (.int .i64 s.off)).set_ 1 (.slice A2 s.data.length m2)).to 2 (.bool true) (cs' := #[.int .i64 s.off, .slice A2 s.data.length m2, .bool true]) (by simp)
        have HOF := own_set1 (own_set1 (own_set1 HO3.out HR3.out (o := 0) (.int .i64 s.off)) (HR3.out.set_ 0 (.int .i64 s.off)) (o := 1) (.slice A2 s.data.length m2)) ((HR3.out.set_ 0 (.int .i64 s.off)).set_ 1 (.slice A2 s.data.length m2)) (o := 2) (.bool true)
        have HJF := ((HJ3.out.setCell (p := ⟨w.heap.size, 0, none⟩) (Nat.le_refl _) (.int .i64 s.off)).setCell (p := ⟨w.heap.size, 1, none⟩) (Nat.le_refl _) (.slice A2 s.data.length m2)).setCell (p := ⟨w.heap.size, 2, none⟩) (Nat.le_refl _) (.bool true)
        generalize World.setCell _ _ _ = WF at *
        have v0 := HF.cell 0 (v := .int .i64 s.off) rfl
        have v1 := HF.cell 1 (v := .slice A2 s.data.length m2) rfl
        have v2 := HF.cell 2 (v := .bool true) rfl
        exact bodyPost_ret (v := .tuple #[.agg #[.int .i64 s.off, .slice A2 s.data.length m2, .bool true], .int .i64 0]) (by simp [results, Try.results15, go_sem, v0, v1, v2]) rfl ⟨⟨s, A2, m2⟩, by unfold pval; rw [HLS.out], rfl, ⟨own_base HOF (by omega), HBY.out⟩, HJF⟩
end Go.Proofs.Ytdhajibegkkeiaa
