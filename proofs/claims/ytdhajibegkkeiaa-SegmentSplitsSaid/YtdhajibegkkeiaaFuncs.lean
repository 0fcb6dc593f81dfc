/- Segment: slices.EqualFunc over equal lists, slices.ContainsFunc over valid segments. -/
import Derived.Test.YtdhajibegkkeiaaSame
import Derived.Test.YtdhajibegkkeiaaLits
namespace Go.Proofs.Ytdhajibegkkeiaa
set_option linter.unusedVariables false
set_option linter.unusedSimpArgs false
open Go.RowKit
theorem SegsAt.new_ {w w' : World} {A : Option Addr} {l : List PSeg} (h : SegsAt w w.heap.size A l) (hb : Below w.heap.size w w') : SegsAt w' w'.heap.size A l := (h.below hb).more hb.size
theorem same_t (p q : PSeg) (w : World) (hp : SegAt w w.heap.size p.s p.A p.kap) (hq : SegAt w w.heap.size q.s q.A q.kap) (h : p.s = q.s) :
    Calls Try.prog 17 #[pval p, pval q] w fun e w' => e = .returned (.bool true) ∧ Below w.heap.size w w' := by
  have := same_c p q w hp hq
  rw [show decide (p.s = q.s) = true by simpa using h] at this
  exact this
set_option maxHeartbeats 4000000 in
theorem eqf_c (l m : List PSeg) (A A' : Option Addr) (kap kap' : Nat) (w : World) (hl : SegsAt w w.heap.size A l) (hm : SegsAt w w.heap.size A' m) (he : segs l = segs m) (hn : l.length ≤ 1000000) :
    Calls Try.prog 20 #[.slice A l.length kap, .slice A' m.length kap', .func (.func 17) #[] #[]] w fun e w' => e = .returned (.bool true) ∧ Below w.heap.size w w' := by
  have HL := Kept.mk hl
  have HM := Kept.mk hm
  have HE := Kept.mk he
  have hlen : l.length = m.length := by rw [← segs_len, he, segs_len]
  have hle : l.length ≤ m.length := by omega
  have hle2 : m.length ≤ l.length := by omega
  have hq0 : ((l.length : Int) != (m.length : Int)) = false := by simp; omega
  clear hl hm he hlen
  go_enter Try.func20, Try.ntmps20
  go_wp2_with fail
  go_loopw [17] (fun v17 wr => ∃ k : Nat, k ≤ l.length ∧ v17 = .int .i64 k ∧ Kept (Below w.heap.size w wr)) (fun v17 _ => l.length - (intOf v17).toNat)
  case atStart => exact ⟨0, by omega, rfl, ⟨Below.refl _ _⟩⟩
  case round =>
    obtain ⟨k, hk, rfl, HD⟩ := hrel
    by_cases hlt : k < l.length
    · obtain ⟨p, b, off, hp, rfl, -, hb, c1, c2, c3, hsg⟩ := (HL.out.new_ HD.out).at_ hlt
      obtain ⟨q, b', off', hq, rfl, -, hb', c1', c2', c3', hsg'⟩ := (HM.out.new_ HD.out).at_ (k := k) (by omega)
      have HPQ : Kept (p.s = q.s) := ⟨by
        have h1 := segs_get hp
        have h2 := segs_get hq
        rw [HE.out, h2] at h1
        injection h1 with h1
        exact h1.symm⟩
      have HS := Kept.mk hsg
      have HS' := Kept.mk hsg'
      have HZ := HD.out.size
      clear hp hq hsg hsg'
      go_wp2_with fail
      refine (same_t p q _ (HS.out.new_ (((Below.refl _ _).alloc (Nat.le_refl _) _).alloc (by simp) _)) (HS'.out.new_ (((Below.refl _ _).alloc (Nat.le_refl _) _).alloc (by simp) _)) HPQ.out).mono ?_
      rintro e w1 ⟨rfl, hb1⟩
      have HD1 : Kept (Below w.heap.size w w1) := ⟨join ((HD.out.alloc HZ _).alloc (by simp only [World.size_alloc]; omega) _) hb1⟩
      clear hb1
      go_wp2_with fail
      go_roundw
      case rel => exact ⟨k + 1, by omega, by go_num, HD1⟩
      case measure => simp [intOf]; omega
    · obtain rfl : k = l.length := by omega
      go_wp2_with fail
      go_ret
      exact ⟨rfl, HD.out⟩
set_option maxHeartbeats 4000000 in
theorem notValid_c (p : PSeg) (w : World) (hm : p.s.data.length ≤ maxLen) (hv : validB p.s = true) :
    Calls Try.prog 22 #[.agg #[.int .i64 p.s.off, .slice p.A p.s.data.length p.kap, .bool p.s.last]] w fun e w' => e = .returned (.bool false) ∧ Below w.heap.size w w' := by
  have HV := Kept.mk hv
  clear hv
  go_enter Try.func22, Try.ntmps22
  go_wp2_with (go_at_call 14; go_must (refine (valid_c p.s p.A p.kap _ hm).mono ?_); rintro e w1 ⟨rfl, hb1⟩; rw [HV.out]; have HJ := Kept.mk (join (w := w) (by go_grown) hb1); clear hb1)
  go_ret
  exact ⟨rfl, HJ.out⟩
set_option maxHeartbeats 4000000 in
theorem index_c (l : List PSeg) (A : Option Addr) (kap : Nat) (w : World) (hl : SegsAt w w.heap.size A l) (hv : ∀ p ∈ l, validB p.s = true) (hn : l.length ≤ 1000000) :
    Calls Try.prog 29 #[.slice A l.length kap, .func (.func 22) #[] #[]] w fun e w' => e = .returned (.int .i64 (-1)) ∧ Below w.heap.size w w' := by
  have HL := Kept.mk hl
  have HV := Kept.mk hv
  clear hl hv
  go_enter Try.func29, Try.ntmps29
  go_wp2_with fail
  go_loopw [8] (fun v8 wr => ∃ k : Nat, k ≤ l.length ∧ v8 = .int .i64 k ∧ Kept (Below w.heap.size w wr)) (fun v8 _ => l.length - (intOf v8).toNat)
  case atStart => exact ⟨0, by omega, rfl, ⟨Below.refl _ _⟩⟩
  case round =>
    obtain ⟨k, hk, rfl, HD⟩ := hrel
    by_cases hlt : k < l.length
    · obtain ⟨p, b, off, hp, rfl, -, hb, c1, c2, c3, hsg⟩ := (HL.out.new_ HD.out).at_ hlt
      have HP := Kept.mk (HV.out p (List.mem_of_getElem? hp))
      have HS := Kept.mk hsg
      clear hp hsg
      go_wp2_with fail
      refine (notValid_c p _ (Nat.le_trans HS.out.le HS.out.max) HP.out).mono ?_
      rintro e w1 ⟨rfl, hb1⟩
      have HD1 : Kept (Below w.heap.size w w1) := ⟨join HD.out hb1⟩
      clear hb1
      go_wp2_with fail
      go_roundw
      case rel => exact ⟨k + 1, by omega, by go_num, HD1⟩
      case measure => simp [intOf]; omega
    · obtain rfl : k = l.length := by omega
      go_wp2_with fail
      go_ret
      exact ⟨rfl, HD.out⟩
theorem contains_c (l : List PSeg) (A : Option Addr) (kap : Nat) (w : World) (hl : SegsAt w w.heap.size A l) (hv : ∀ p ∈ l, validB p.s = true) (hn : l.length ≤ 1000000) :
    Calls Try.prog 21 #[.slice A l.length kap, .func (.func 22) #[] #[]] w fun e w' => e = .returned (.bool false) ∧ Below w.heap.size w w' := by
  have HC := Kept.mk (index_c l A kap w hl hv hn)
  clear hl hv
  go_enter Try.func21, Try.ntmps21
  go_wp2_with (go_at_call 29; go_must (refine HC.out.mono ?_); rintro e w1 ⟨rfl, hb1⟩; have HJ := Kept.mk hb1; clear hb1)
  go_ret
  exact ⟨rfl, HJ.out⟩
end Go.Proofs.Ytdhajibegkkeiaa
