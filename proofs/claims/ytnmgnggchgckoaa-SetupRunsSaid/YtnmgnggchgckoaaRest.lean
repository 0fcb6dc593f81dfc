/- Setup: the words for the rounds of repetition; the walk of slices.Min. -/
import Derived.Test.YtnmgnggchgckoaaEnd
namespace Go.Proofs.Ytnmgnggchgckoaa
set_option linter.unusedVariables false
set_option linter.unusedSimpArgs false
open Go.RowKit
/-- The world of a round of repetition. -/
structure EW (w : World) (L : Loc) (A : Option Addr) (B B2 : Nat) (l : List Int) (need : Int) (c : Ch) (fly : List Msg) (wr : World) : Prop where
  inv : Inv c fly
  rooms : c.rooms = l
  need : c.need = need
  ch : IsCh wr L c
  list : Reads wr B 1 A l.length (iv l)
  low : Low L B2
  lowS : B ≤ L.S
  base : w.heap.size ≤ B
  big : B2 ≤ wr.heap.size
  below : Below w.heap.size w wr
section
variable {w wr w1 : World} {L : Loc} {A : Option Addr} {B B2 : Nat} {l : List Int} {need : Int} {c : Ch} {fly : List Msg}
theorem OpW.ew {v : Value} (h : OpW w L A B B2 l need c fly v wr) : EW w L A B B2 l need c [] wr :=
  ⟨h.inv.sub (by simp), h.rooms, h.need, h.ch, h.list, h.low, h.lowS, h.base, h.big, h.below⟩
theorem EW.n (h : EW w L A B B2 l need c fly wr) : c.n = l.length := by rw [← h.rooms]; exact h.inv.ok.len.symm
theorem EW.new_ (h : EW w L A B B2 l need c fly wr) (hb : Below wr.heap.size wr w1) : EW w L A B B2 l need c fly w1 :=
  ⟨h.inv, h.rooms, h.need, h.ch.new_ hb, h.list.below (hb.mono (by have := h.lowS; have := h.low.S; have := h.big; omega)), h.low, h.lowS, h.base, Nat.le_trans h.big hb.size, join h.below hb⟩
theorem EW.alloc (h : EW w L A B B2 l need c fly wr) (o : Obj) : EW w L A B B2 l need c fly (wr.alloc o) := h.new_ ((Below.refl _ _).alloc (Nat.le_refl _) o)
theorem EW.drewN (h : EW w L A B B2 l need c fly wr) (n : Nat) : EW w L A B B2 l need c fly (wr.drewN n) := h.new_ (dN (Below.refl _ _) n)
theorem EW.fly_ (h : EW w L A B B2 l need c fly wr) {fly' : List Msg} (hi : Inv c fly') : EW w L A B B2 l need c fly' wr := ⟨hi, h.rooms, h.need, h.ch, h.list, h.low, h.lowS, h.base, h.big, h.below⟩
theorem EW.turn (h : EW w L A B B2 l need c fly wr) {c' : Ch} {fly' : List Msg} (ha : Alike c c') (hi : Inv c' fly') (hc : IsCh w1 L c') (hb : OnlyP (fun x => x = L.S) wr w1) : EW w L A B B2 l need c' fly' w1 :=
  ⟨hi, ha.rooms.trans h.rooms, ha.need.trans h.need, hc, reads_only h.list hb (by rintro k rfl; exact h.lowS) (by have := h.lowS; have := h.low.S; have := h.big; omega), h.low, h.lowS, h.base, Nat.le_trans h.big hb.size,
    h.below.trans (hb.below (B := w.heap.size) (by rintro k rfl; exact Nat.le_trans h.base h.lowS) h.below.size)⟩
end
theorem Drewn.ew {w wr wr' : World} {L : Loc} {A : Option Addr} {B B2 : Nat} {l : List Int} {need : Int} {c : Ch} {fly : List Msg} (hd : Drewn wr wr') (h : EW w L A B B2 l need c fly wr) : EW w L A B B2 l need c fly wr' := by
  obtain ⟨k, rfl⟩ := hd; exact h.drewN k
/-- The least of the rooms. -/
def IsMin (l : List Int) (x : Int) : Prop := (∀ i, i < l.length → x ≤ l.getD i 0) ∧ ∃ i, i < l.length ∧ x = l.getD i 0
set_option maxHeartbeats 1000000 in
theorem min_c (l : List Int) (A : Option Addr) (kap : Nat) (w : World) (B : Nat) (hr : Reads w B 1 A l.length (iv l)) (h0 : 0 < l.length) (hn : l.length ≤ 1000000) :
    Calls Try.prog 20 #[.slice A l.length kap] w fun e w' => ∃ x, e = .returned (.int .i64 x) ∧ w = w' ∧ IsMin l x := by
  obtain ⟨ad, v, rfl, hadb, hx, hc⟩ := hr.at_ h0
  rw [iv_get h0] at hx
  injection hx with hx
  subst hx
  have HR : Kept (∀ j, j < l.length → w.cell? (ad.add j) = some (.int .i64 (l.getD j 0))) := ⟨fun j hj => by
    obtain ⟨ad', v, e1, -, hx, hc⟩ := hr.at_ hj
    injection e1 with e1
    subst e1
    rw [iv_get hj] at hx
    injection hx with hx
    rw [hx]; exact hc⟩
  have hc0 := HR.out 0 h0
  have hc00 : w.cell? ad = some (.int .i64 (l.getD 0 0)) := by simpa [Addr.add] using hc0
  clear hr hc
  obtain ⟨x0, hx0⟩ : ∃ x0, l.getD 0 0 = x0 := ⟨_, rfl⟩
  have HX0 := Kept.mk hx0
  rw [hx0] at hc0 hc00
  clear hx0
  go_enter Try.func20, Try.ntmps20
  go_wp2_with fail
  go_loop [3, 4] (fun v3 v4 => ∃ (k : Nat) (m : Int), k ≤ l.length ∧ 1 ≤ k ∧ v4 = .int .i64 k ∧ v3 = .int .i64 m ∧ Kept ((∀ i, i < k → m ≤ l.getD i 0) ∧ ∃ i, i < k ∧ m = l.getD i 0)) (fun _ v4 => l.length - (intOf v4).toNat)
  case atStart => exact ⟨1, x0, by omega, by omega, rfl, rfl, ⟨⟨by
      intro i hi
      obtain rfl : i = 0 := by omega
      rw [HX0.out]; omega, ⟨0, by omega, HX0.out.symm⟩⟩⟩⟩
  case round =>
    obtain ⟨k, m, hk, hk1, rfl, rfl, HT⟩ := hrel
    by_cases hlt : k < l.length
    · have hck := HR.out k hlt
      obtain ⟨x, hx⟩ : ∃ x, l.getD k 0 = x := ⟨_, rfl⟩
      have HX := Kept.mk hx
      rw [hx] at hck
      clear hx
      rcases (by omega : (x < m ∧ min m x = x) ∨ (m ≤ x ∧ min m x = m)) with ⟨h1, hm⟩ | ⟨h1, hm⟩
      · have HN : Kept ((∀ i, i < k + 1 → x ≤ l.getD i 0) ∧ ∃ i, i < k + 1 ∧ x = l.getD i 0) := ⟨⟨by
          intro i hi
          rcases Nat.lt_or_ge i k with h2 | h2
          · have := HT.out.1 i h2; omega
          · obtain rfl : i = k := by omega
            rw [HX.out]; omega, ⟨k, by omega, HX.out.symm⟩⟩⟩
        go_wp2_with fail
        go_round
        case rel => exact ⟨k + 1, x, by omega, by omega, by go_num, rfl, HN⟩
        case measure => simp [intOf]; omega
      · have HN : Kept ((∀ i, i < k + 1 → m ≤ l.getD i 0) ∧ ∃ i, i < k + 1 ∧ m = l.getD i 0) := ⟨⟨by
          intro i hi
          rcases Nat.lt_or_ge i k with h2 | h2
          · exact HT.out.1 i h2
          · obtain rfl : i = k := by omega
            rw [HX.out]; omega, by
          obtain ⟨i, hi, e⟩ := HT.out.2; exact ⟨i, by omega, e⟩⟩⟩
        go_wp2_with fail
        go_round
        case rel => exact ⟨k + 1, m, by omega, by omega, by go_num, rfl, HN⟩
        case measure => simp [intOf]; omega
    · obtain rfl : k = l.length := by omega
      go_wp2_with fail
      go_ret
      exact ⟨m, rfl, rfl, HT.out⟩
end Go.Proofs.Ytnmgnggchgckoaa
