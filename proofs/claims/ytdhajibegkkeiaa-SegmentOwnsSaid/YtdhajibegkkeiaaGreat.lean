/- Segment: the walks of the statements' great and of slices.Clone at segments (printed by gen_great.py). -/
import Derived.Test.YtdhajibegkkeiaaSplit
import Derived.Test.YtdhajibegkkeiaaLits
namespace Go.Proofs.Ytdhajibegkkeiaa
set_option linter.unusedVariables false
set_option linter.unusedSimpArgs false
open Go.RowKit
theorem segsAt_new {w w' : World} {A : Option Addr} {l : List PSeg} (h : SegsAt w w.heap.size A l) (hb : Below w.heap.size w w') : SegsAt w' w'.heap.size A l := (h.below hb).more hb.size
/-- Not too great. -/
def Modest (l : List PSeg) : Prop := l.length ≤ 40 ∧ (∀ p ∈ l, p.s.data.length ≤ 100) ∧ ∀ p ∈ l, ∀ q ∈ l, validB p.s = true → validB q.s = true → q.s.fin - p.s.off ≤ 4000
def Greats (w : World) (l : List PSeg) (e : Ending) (w' : World) : Prop := ∃ b, e = .returned (.bool b) ∧ (b = false → Modest l) ∧ Below w.heap.size w w'
theorem range_next {l : List PSeg} {k : Nat} {p : PSeg} {lo hi lo' hi' : Int} (h : ∀ q ∈ l.take k, validB q.s = true → 0 ≤ lo ∧ lo ≤ q.s.off ∧ q.s.fin ≤ hi) (hp : l[k]? = some p) (h1 : 0 ≤ lo → 0 ≤ lo' ∧ lo' ≤ lo) (h2 : hi ≤ hi') (h3 : validB p.s = true → 0 ≤ lo' ∧ lo' ≤ p.s.off ∧ p.s.fin ≤ hi') : ∀ q ∈ l.take (k + 1), validB q.s = true → 0 ≤ lo' ∧ lo' ≤ q.s.off ∧ q.s.fin ≤ hi' := by
  rw [take_next hp]
  intro q hq hv
  rcases List.mem_append.1 hq with hq | hq
  · obtain ⟨a, b, c⟩ := h q hq hv
    obtain ⟨d, e⟩ := h1 a
    exact ⟨d, by omega, by omega⟩
  · simp at hq; subst hq; exact h3 hv
theorem great_big (l : List PSeg) (A : Option Addr) (kap : Nat) (w : World) (hn : 40 < l.length) (hm : l.length ≤ 9223372036854775807) :
    Calls Try.prog 23 #[.slice A l.length kap] w (Greats w l) := by
  have hn' : (40 : Int) < l.length := by omega
  go_enter Try.func23, Try.ntmps23
  go_wp2_with fail
  go_ret
  exact ⟨true, rfl, (fun h => by cases h), Below.refl _ _⟩
set_option maxRecDepth 100000 in
set_option maxHeartbeats 4000000 in
theorem great_some (l : List PSeg) (A : Option Addr) (kap : Nat) (w : World) (hl : SegsAt w w.heap.size A l) (hn : l.length ≤ 40) (hlen : ∀ p ∈ l, p.s.data.length ≤ 9223372036854775807) :
    Calls Try.prog 23 #[.slice A l.length kap] w (Greats w l) := by
  have HL := Kept.mk hl
  have HLEN := Kept.mk hlen
  have hn' : ¬ (40 : Int) < l.length := by omega
  clear hl hlen
  go_enter Try.func23, Try.ntmps23
  go_wp2_with fail
  go_loopw [3, 4, 12] (fun v3 v4 v12 wr => ∃ (k : Nat) (lo hi : Int), k ≤ l.length ∧ v3 = .int .i64 lo ∧ v4 = .int .i64 hi ∧ v12 = .int .i64 k ∧ -1 ≤ lo ∧ lo ≤ 1099511627776 ∧ -1 ≤ hi ∧ hi ≤ 1099511627776 ∧ Kept (∀ q ∈ l.take k, validB q.s = true → 0 ≤ lo ∧ lo ≤ q.s.off ∧ q.s.fin ≤ hi) ∧ Kept (∀ q ∈ l.take k, q.s.data.length ≤ 100) ∧ Kept (Below w.heap.size w wr)) (fun _ _ v12 _ => l.length - (intOf v12).toNat)
  case atStart => exact ⟨0, -1, -1, by omega, rfl, rfl, rfl, by omega, by omega, by omega, by omega, ⟨fun q hq => by simp at hq⟩, ⟨fun q hq => by simp at hq⟩, ⟨Below.refl _ _⟩⟩
  case round =>
    obtain ⟨k, lo, hi, hk, rfl, rfl, rfl, l1, l2, g1, g2, HQ, HQ2, HD⟩ := hrel
    by_cases hlt : k < l.length
    · obtain ⟨p, b, off, hp, rfl, -, hb, c1, c2, c3, hsg⟩ := (segsAt_new HL.out HD.out).at_ hlt
      have hpl := HLEN.out p (List.mem_of_getElem? hp)
      have HP := Kept.mk hp
      have hm := Nat.le_trans hsg.le hsg.max
      have HZ := HD.out.size
      have z0 : (0 : Int) ≤ p.s.data.length := by omega
      clear hp hsg
      by_cases hbig : (100 : Int) < p.s.data.length
      · go_wp2_with fail
        go_ret
        exact ⟨true, rfl, (fun h => by cases h), HD.out.alloc HZ _⟩
      · have HQ3 : Kept (∀ q ∈ l.take (k + 1), q.s.data.length ≤ 100) := ⟨by
          rw [take_next HP.out]
          intro q hq
          rcases List.mem_append.1 hq with hq | hq
          · exact HQ2.out q hq
          · simp at hq; subst hq; omega⟩
        have hbig' : (p.s.data.length : Int) ≤ 100 := by omega
        cases hv : validB p.s with
        | false =>
          have HV := Kept.mk hv
          have HN := Kept.mk (range_next HQ.out HP.out (lo' := lo) (hi' := hi) (fun h => ⟨h, by omega⟩) (by omega) (fun h => by rw [hv] at h; cases h))
          clear hv
          have HB0 := Kept.mk (Blk.new wr 24 #[.int .i64 p.s.off, .slice p.A p.s.data.length p.kap, .bool p.s.last])
          go_wp2_with (go_at_call 13; go_must (refine (refValid_c p.s p.A p.kap _ hm).mono ?_); rintro e w1 ⟨rfl, hb1⟩; rw [HV.out]; have HB1 := Kept.mk (HB0.out.new_ hb1); have k0 := HB1.out.cell 0 (v := .int .i64 p.s.off) rfl; have k1 := HB1.out.cell 1 (v := .slice p.A p.s.data.length p.kap) rfl; have HD1 := Kept.mk (join (HD.out.alloc HZ _) hb1); clear hb1)
          go_roundw
          case rel => exact ⟨k + 1, lo, hi, by omega, rfl, rfl, by go_num, l1, l2, g1, g2, HN, HQ3, HD1⟩
          case measure => simp [intOf]; omega
        | true =>
          obtain ⟨x1, x2, x3⟩ := valid_iff.1 hv
          have HV := Kept.mk hv
          clear hv
          have hcase : lo < 0 ∨ (0 ≤ lo ∧ ¬ lo < 0 ∧ p.s.off < lo) ∨ (0 ≤ lo ∧ ¬ lo < 0 ∧ ¬ p.s.off < lo) := by omega
          rcases hcase with y1 | ⟨y1, y2, y3⟩ | ⟨y1, y2, y3⟩
          · have HN := Kept.mk (range_next HQ.out HP.out (lo' := p.s.off) (hi' := if hi < p.s.off + p.s.data.length then p.s.off + p.s.data.length else hi) (fun h => by omega) (by split <;> omega) (fun _ => ⟨by omega, by omega, by unfold Seg.fin; split <;> omega⟩))
            have HB0 := Kept.mk (Blk.new wr 24 #[.int .i64 p.s.off, .slice p.A p.s.data.length p.kap, .bool p.s.last])
            go_wp2_with (go_at_call 13; go_must (refine (refValid_c p.s p.A p.kap _ hm).mono ?_); rintro e w1 ⟨rfl, hb1⟩; rw [HV.out]; have HB1 := Kept.mk (HB0.out.new_ hb1); have k0 := HB1.out.cell 0 (v := .int .i64 p.s.off) rfl; have k1 := HB1.out.cell 1 (v := .slice p.A p.s.data.length p.kap) rfl; have HD1 := Kept.mk (join (HD.out.alloc HZ _) hb1); clear hb1)
            go_roundw
            case rel => exact ⟨k + 1, _, _, by omega, rfl, rfl, by go_num, by omega, by omega, by split <;> omega, by split <;> omega, HN, HQ3, HD1⟩
            case measure => simp [intOf]; omega
          · have HN := Kept.mk (range_next HQ.out HP.out (lo' := p.s.off) (hi' := if hi < p.s.off + p.s.data.length then p.s.off + p.s.data.length else hi) (fun h => ⟨by omega, by omega⟩) (by split <;> omega) (fun _ => ⟨by omega, by omega, by unfold Seg.fin; split <;> omega⟩))
            have HB0 := Kept.mk (Blk.new wr 24 #[.int .i64 p.s.off, .slice p.A p.s.data.length p.kap, .bool p.s.last])
            go_wp2_with (go_at_call 13; go_must (refine (refValid_c p.s p.A p.kap _ hm).mono ?_); rintro e w1 ⟨rfl, hb1⟩; rw [HV.out]; have HB1 := Kept.mk (HB0.out.new_ hb1); have k0 := HB1.out.cell 0 (v := .int .i64 p.s.off) rfl; have k1 := HB1.out.cell 1 (v := .slice p.A p.s.data.length p.kap) rfl; have HD1 := Kept.mk (join (HD.out.alloc HZ _) hb1); clear hb1)
            go_roundw
            case rel => exact ⟨k + 1, _, _, by omega, rfl, rfl, by go_num, by omega, by omega, by split <;> omega, by split <;> omega, HN, HQ3, HD1⟩
            case measure => simp [intOf]; omega
          · have HN := Kept.mk (range_next HQ.out HP.out (lo' := lo) (hi' := if hi < p.s.off + p.s.data.length then p.s.off + p.s.data.length else hi) (fun h => ⟨h, by omega⟩) (by split <;> omega) (fun _ => ⟨by omega, by omega, by unfold Seg.fin; split <;> omega⟩))
            have HB0 := Kept.mk (Blk.new wr 24 #[.int .i64 p.s.off, .slice p.A p.s.data.length p.kap, .bool p.s.last])
            go_wp2_with (go_at_call 13; go_must (refine (refValid_c p.s p.A p.kap _ hm).mono ?_); rintro e w1 ⟨rfl, hb1⟩; rw [HV.out]; have HB1 := Kept.mk (HB0.out.new_ hb1); have k0 := HB1.out.cell 0 (v := .int .i64 p.s.off) rfl; have k1 := HB1.out.cell 1 (v := .slice p.A p.s.data.length p.kap) rfl; have HD1 := Kept.mk (join (HD.out.alloc HZ _) hb1); clear hb1)
            go_roundw
            case rel => exact ⟨k + 1, _, _, by omega, rfl, rfl, by go_num, by omega, by omega, by split <;> omega, by split <;> omega, HN, HQ3, HD1⟩
            case measure => simp [intOf]; omega
    · obtain rfl : k = l.length := by omega
      have HM : Kept (∀ p ∈ l, ∀ q ∈ l, validB p.s = true → validB q.s = true → q.s.fin - p.s.off ≤ hi - lo) := ⟨fun p hp q hq hvp hvq => by
        have h1 := HQ.out
        rw [List.take_length] at h1
        have := h1 p hp hvp
        have := h1 q hq hvq
        omega⟩
      have HQ3 : Kept (∀ p ∈ l, p.s.data.length ≤ 100) := ⟨by have := HQ2.out; rwa [List.take_length] at this⟩
      clear hlt
      go_wp2_with fail
      go_ret
      refine ⟨_, rfl, fun h => ⟨hn, HQ3.out, fun p hp q hq hvp hvq => ?_⟩, HD.out⟩
      have h2 := HM.out p hp q hq hvp hvq
      simp at h
      omega
theorem great_c (l : List PSeg) (A : Option Addr) (kap : Nat) (w : World) (hl : SegsAt w w.heap.size A l) (hm : l.length ≤ 9223372036854775807) (hlen : ∀ p ∈ l, p.s.data.length ≤ 9223372036854775807) :
    Calls Try.prog 23 #[.slice A l.length kap] w (Greats w l) := by
  by_cases hn : 40 < l.length
  · exact great_big l A kap w hn hm
  · exact great_some l A kap w hl (by omega) hlen
set_option maxHeartbeats 1000000 in
theorem cloneS_c (A : Option Addr) (kap n : Nat) (l : List PSeg) (w : World) (B : Nat) (hn : l.length = n) (h : Reads w B 3 A n (scells l)) (hB : B ≤ w.heap.size) (hm : n ≤ 1000000) :
    Calls Try.prog 24 #[.slice A n kap] w fun e w' => ∃ v, e = .returned v ∧ w'.ownsRow w.heap.size 24 3 v n (scells l) ∧ Below w.heap.size w w' := by
  obtain ⟨jj, hjj, hy0, hy1, hy2⟩ := info_parts info24
  rcases A with _ | ad
  · obtain ⟨h0, h1⟩ := reads_nil h
    subst h0
    have hx : l = [] := List.eq_nil_of_length_eq_zero hn
    subst hx
    have hq := fun (w : World) => Lib.run_eql_slice_nil w 34 24 none 0 kap 0 0 Try.underlying34
    simp only [Option.isNone] at hq
    clear h h1
    go_enter Try.func24, Try.ntmps24
    go_wp2_with fail
    go_ret
    exact ⟨_, rfl, World.ownsRow_nil _ _ _ _, Below.refl _ _⟩
  · have hq := fun (w : World) => Lib.run_eql_slice_nil w 34 24 (some ad) n kap 0 0 Try.underlying34
    simp only [Option.isNone] at hq
    have HR := Kept.mk (h.alloc hB (.cells #[] 24))
    have HO := Kept.mk (World.ownsRow_lit (base := w.heap.size) (e := 24) (size := 3) w #[] 0 (Nat.le_refl _) (by unfold maxLen; omega) rfl)
    clear h hB
    go_enter Try.func24, Try.ntmps24
    go_wp2_with (at_builtin; refine wpList_append_any _ rfl _ _ _ rfl w.heap.size 24 jj _ 3 40 Try.underlying34 hjj hy0 hy1 hy2 rfl (by omega) _ 0 _ rfl HO.out B (some ad) n kap (scells l) rfl HR.out scells_one (by unfold maxLen; omega) (by omega) (by simp) ?_; intro v' w2 ho hg hat)
    go_ret
    exact ⟨v', rfl, by simpa using ho, ((Below.refl _ _).alloc (Nat.le_refl _) _).grown hg (by simp) (fun k hk => (HO.out.lt k hk).1)⟩
end Go.Proofs.Ytdhajibegkkeiaa
