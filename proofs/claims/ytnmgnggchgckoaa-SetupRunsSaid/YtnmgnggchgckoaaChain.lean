/- Setup: the walk of the statements' chain: a chain out of any numbers. -/
import Derived.Test.YtnmgnggchgckoaaBase
namespace Go.Proofs.Ytnmgnggchgckoaa
set_option linter.unusedVariables false
set_option linter.unusedSimpArgs false
open Go.RowKit
def bv (l : List Int) : List Value := l.map (Value.int .u8)
theorem bv_get {l : List Int} {i : Nat} (hi : i < l.length) : (bv l)[i]? = some (.int .u8 (l.getD i 0)) := by
  simp [bv, List.getD_eq_getElem?_getD, List.getElem?_eq_getElem hi]
theorem rows_bytes {w : World} {a : Option Addr} {len cap : Nat} (h : IsRows w 1 IsByte a len cap) : ∃ l : List Int, l.length = len ∧ (∀ i, i < len → 0 ≤ l.getD i 0 ∧ l.getD i 0 ≤ 255) ∧ Reads w w.heap.size 1 a len (bv l) := by
  obtain ⟨h1, h2, h3⟩ := h
  rcases Nat.eq_zero_or_pos len with h0 | h0
  · subst h0; exact ⟨[], rfl, fun i hi => absurd hi (by omega), by simp [bv], fun h => absurd h (by omega)⟩
  · obtain ⟨b, off, rfl, hb, hc⟩ := h3 h0
    obtain ⟨l, hl, hp⟩ := list_of (fun i x => (0 ≤ x ∧ x ≤ 255) ∧ w.cell? ⟨b, off + i, none⟩ = some (.int .u8 x)) len fun i hi => by
      obtain ⟨cs, ⟨x, rfl, x0, x1⟩, hcell⟩ := hc i hi
      exact ⟨x, ⟨x0, x1⟩, by have := hcell 0 _ rfl; simpa using this⟩
    refine ⟨l, hl, fun i hi => (hp i hi).1, by simp [bv, hl], fun _ => ⟨_, rfl, hb, fun j u hu => ?_⟩⟩
    have hj : j < l.length := by
      have := (List.getElem?_eq_some_iff.1 hu).1; simpa [bv] using this
    rw [bv_get hj] at hu
    injection hu with hu
    subst hu
    have := (hp j (by omega)).2
    unfold Addr.add
    split
    · rename_i h; subst h; simpa using this
    · exact this
def chainL (bs : List Int) : List Int := 3 :: (bs.map (· % 5)).take 7
theorem chainL_len (bs : List Int) : (chainL bs).length = 1 + min 7 bs.length := by simp [chainL]; omega
theorem chainL_take (bs : List Int) (j : Nat) : chainL (bs.take j) = 3 :: (bs.map (· % 5)).take (min 7 j) := by
  simp only [chainL, List.map_take, List.take_take]
theorem chainL_more {bs : List Int} {k : Nat} (hk : k < bs.length) (h : k < 7) : chainL (bs.take (k + 1)) = chainL (bs.take k) ++ [bs.getD k 0 % 5] := by
  rw [chainL_take, chainL_take, show min 7 (k + 1) = k + 1 by omega, show min 7 k = k by omega, List.take_succ_eq_append_getElem (by simpa using hk)]
  simp [List.getD_eq_getElem?_getD, List.getElem?_eq_getElem hk]
theorem chainL_same {bs : List Int} {k : Nat} (hk : k < bs.length) (h : 7 ≤ k) : chainL (bs.take (k + 1)) = chainL (bs.take k) := by
  rw [chainL_take, chainL_take, show min 7 (k + 1) = 7 by omega, show min 7 k = 7 by omega]
theorem chainL_fits {bs : List Int} {need : Int} (h0 : 0 ≤ need) : fitsB 5 (chainL bs) (1 + need % 4) = true := by
  have hl := chainL_len bs
  have hr : roomsB (chainL bs) = true := by
    rw [roomsB, List.all_eq_true]
    intro x hx
    simp only [chainL, List.mem_cons] at hx
    rcases hx with rfl | hx
    · rfl
    · have := List.mem_of_mem_take hx
      simp only [List.mem_map] at this
      obtain ⟨y, _, rfl⟩ := this
      simp; omega
  simp only [fitsB, hr, Bool.and_true]
  exact argB_iff.2 ⟨by omega, by omega, by omega, by omega, by omega⟩
structure Chains (w : World) (c : Ch) (l : List Int) (L : Loc) (A : Option Addr) (kap B : Nat) (w' : World) : Prop where
  ch : IsCh w' L c
  list : Reads w' B 1 A l.length (iv l)
  p : B ≤ L.p
  R : B ≤ L.R
  S : B ≤ L.S
  low : w.heap.size ≤ B
  below : Below w.heap.size w w'
/-- The world of a round. -/
structure ChW (w : World) (l : List Int) (v : Value) (wr : World) : Prop where
  own : wr.ownsRow w.heap.size 3 1 v l.length (iv l)
  below : Below w.heap.size w wr
set_option maxHeartbeats 4000000 in
theorem chain_c (bs : List Int) (a : Option Addr) (kap : Nat) (nd : Int) (w : World) (hr : Reads w w.heap.size 1 a bs.length (bv bs)) (hb : ∀ i, i < bs.length → 0 ≤ bs.getD i 0 ∧ bs.getD i 0 ≤ 255) (n0 : 0 ≤ nd) (n1 : nd ≤ 255) (hlen : bs.length ≤ 1000000) :
    Calls Try.prog 16 #[.slice a bs.length kap, .int .u8 nd] w fun e w' => ∃ L A k2 B, e = .returned (.tuple #[.pointer (some ⟨L.p, 0, none⟩), .slice A (chainL bs).length k2, .int .i64 (1 + nd % 4)]) ∧ Chains w (start0 5 (chainL bs) (1 + nd % 4)) (chainL bs) L A k2 B w' := by
  obtain ⟨i0, hi0, hz0, hz1, hz2⟩ := info_parts info3
  have HR := Kept.mk hr
  have HB := Kept.mk hb
  have HF := Kept.mk (chainL_fits (bs := bs) n0)
  have HLL := Kept.mk (chainL_len bs)
  have HL0 := Kept.mk (litI w [3] (by decide))
  clear hr hb
  have hl8 : (chainL bs).length ≤ 8 := by rw [HLL.out]; omega
  go_enter Try.func16, Try.ntmps16
  go_wp2_with fail
  go_loopw [7, 16] (fun v7 v16 wr => ∃ k : Nat, k ≤ bs.length ∧ v16 = .int .i64 k ∧ Kept (ChW w (chainL (bs.take k)) v7 wr)) (fun _ v16 _ => bs.length - (intOf v16).toNat)
  case atStart => exact ⟨0, by omega, rfl, ⟨⟨HL0.out, by go_grown⟩⟩⟩
  case round =>
    obtain ⟨k, hk, rfl, HT⟩ := hrel
    obtain ⟨A, kk, rfl⟩ := own_slice HT.out.own
    have HLK := Kept.mk (chainL_len (bs.take k))
    have hlk : (chainL (bs.take k)).length = 1 + min 7 k := by rw [HLK.out]; simp; omega
    by_cases hlt : k < bs.length
    · obtain ⟨ad, v, rfl, hadb, hx, hc⟩ := (HR.out.below HT.out.below).at_ hlt
      obtain ⟨x0, x1⟩ := HB.out k hlt
      rw [bv_get hlt] at hx
      injection hx with hx
      subst hx
      by_cases h7 : k < 7
      · have HN := Kept.mk (chainL_more hlt h7)
        have hl9 : (chainL (bs.take k)).length < 8 := by omega
        have hl10 : (chainL (bs.take k)).length ≤ 1000 := by omega
        clear hlk
        generalize bs.getD k 0 = x at *
        have HM : Kept (Reads (wr.alloc (.cells #[.int .i64 (x % 5)] 3)) (wr.alloc (.cells #[.int .i64 (x % 5)] 3)).heap.size 1 (some ⟨wr.heap.size, 0, none⟩) 1 (iv [x % 5])) := ⟨own_reads (litI wr [x % 5] (by simp))⟩
        have HO := Kept.mk (HT.out.own.alloc (.cells #[.int .i64 (x % 5)] 3))
        have HZ := HT.out.below.size
        go_wp2_with (at_builtin; refine wpList_append_any _ rfl _ _ _ rfl w.heap.size 3 i0 _ 1 8 Try.underlying22 hi0 hz0 hz1 hz2 rfl (by omega) _ _ _ rfl HO.out _ _ _ _ _ rfl HM.out (iv_one _) (by unfold maxLen; omega) (by omega) (by simp; omega) ?_; intro v' w2 ho hg _)
        have HN2 : Kept (ChW w (chainL (bs.take (k + 1))) v' w2) := ⟨⟨by rw [HN.out, List.length_append]; simpa [iv] using ho, (HT.out.below.alloc HZ _).grown hg (by simp; omega) (fun g hg' => (HT.out.own.lt g hg').1)⟩⟩
        clear ho hg
        go_wp2_with fail
        go_roundw
        case rel => exact ⟨k + 1, by omega, by go_num, HN2⟩
        case measure => simp [intOf]; omega
      · have HN := Kept.mk (chainL_same hlt (by omega))
        have hl9 : 8 ≤ (chainL (bs.take k)).length := by omega
        clear hlk
        generalize bs.getD k 0 = x at *
        have HN2 : Kept (ChW w (chainL (bs.take (k + 1))) (.slice A (chainL (bs.take k)).length kk) wr) := ⟨⟨by rw [HN.out]; exact HT.out.own, HT.out.below⟩⟩
        go_wp2_with fail
        go_roundw
        case rel => exact ⟨k + 1, by omega, by go_num, HN2⟩
        case measure => simp [intOf]; omega
    · obtain rfl : k = bs.length := by omega
      have HT2 := HT
      rw [List.take_length] at HT2 ⊢
      clear HT hlk HLK
      have HRL := Kept.mk (own_reads HT2.out.own)
      go_wp2_with fail
      refine (new_yes 5 (chainL bs) (1 + nd % 4) A kk _ _ HRL.out (Nat.le_refl _) HF.out).mono ?_
      rintro e w1 ⟨L, rfl, hc, hb, hp, hR, hS⟩
      have HQ : Kept (Chains w (start0 5 (chainL bs) (1 + nd % 4)) (chainL bs) L A kk wr.heap.size w1) := ⟨⟨hc, HRL.out.below hb, hp, hR, hS, HT2.out.below.size, join HT2.out.below hb⟩⟩
      clear hc hb hp hR hS
      go_wp2_with fail
      go_ret3
      exact ⟨L, A, kk, wr.heap.size, rfl, HQ.out⟩
end Go.Proofs.Ytnmgnggchgckoaa
