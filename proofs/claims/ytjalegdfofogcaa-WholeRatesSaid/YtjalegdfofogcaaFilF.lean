/- slices.Contains of false in a row of flags; the steps of the filling. -/
import Derived.Test.YtjalegdfofogcaaFilE
namespace Go.Proofs.Ytjalegdfofogcaa
set_option linter.unusedVariables false
set_option linter.unusedSimpArgs false
open Go.RowKit
set_option maxHeartbeats 1000000 in
theorem indexB_c (l : List Bool) (A : Option Addr) (kap : Nat) (w : World) (h : RowsAt w w.heap.size 1 boolc A l) (hm : l.length ≤ 9223372036854775807) :
    Calls Try.prog 68 #[.slice A l.length kap, .bool false] w fun e w' => ∃ r : Int, e = .returned (.int .i64 r) ∧ decide (0 ≤ r) = l.contains false ∧ w = w' := by
  have HR := Kept.mk h
  clear h
  go_enter Try.func68, Try.ntmps68
  go_wp2_with fail
  go_loopw [8] (fun v wr => ∃ k : Nat, k ≤ l.length ∧ v = .int .i64 k ∧ Kept ((l.take k).contains false = false) ∧ wr = w) (fun v _ => l.length - (intOf v).toNat)
  case atStart => exact ⟨0, Nat.zero_le _, rfl, ⟨by simp⟩, rfl⟩
  case round =>
    obtain ⟨k, hk, rfl, HC, rfl⟩ := hrel
    by_cases hlt : k < l.length
    · obtain ⟨y, b, off, hy, rfl, -, hb, hc⟩ := HR.out.at_ hlt
      have c0 := hc 0 (.bool y) rfl
      simp only [Nat.add_zero, Nat.mul_one] at c0
      have HY := Kept.mk hy
      clear hc hy
      cases y with
      | false =>
        have HF : Kept (l.contains false = true) := ⟨by rw [List.contains_iff_mem]; exact List.mem_of_getElem? HY.out⟩
        go_wp2_with fail
        go_ret
        exact ⟨_, rfl, by rw [HF.out]; exact decide_eq_true (by omega), rfl⟩
      | true =>
        have HC2 : Kept ((l.take (k + 1)).contains false = false) := ⟨by
          rw [take_next HY.out, List.contains_eq_any_beq, List.any_append, ← List.contains_eq_any_beq, HC.out]
          rfl⟩
        go_wp2_with fail
        go_roundw
        case rel => exact ⟨k + 1, by omega, by go_num, HC2, by trivial⟩
        case measure => simp [intOf]; omega
    · obtain rfl : k = l.length := by omega
      have HF : Kept (l.contains false = false) := ⟨by have := HC.out; rwa [List.take_length] at this⟩
      clear hlt HC
      go_wp2_with fail
      go_ret
      exact ⟨_, rfl, by rw [HF.out]; rfl, rfl⟩
theorem containsB_c (l : List Bool) (A : Option Addr) (kap : Nat) (w : World) (h : RowsAt w w.heap.size 1 boolc A l) (hm : l.length ≤ 9223372036854775807) :
    Calls Try.prog 54 #[.slice A l.length kap, .bool false] w fun e w' => e = .returned (.bool (l.contains false)) ∧ w = w' := by
  have HR := Kept.mk h
  clear h
  have HI := fun w h => indexB_c l A kap w h hm
  go_enter Try.func54, Try.ntmps54
  go_wp2_with (go_at_call 68; refine (HI _ HR.out).mono ?_; rintro e w1 ⟨r, rfl, hr, rfl⟩; have HC := Kept.mk hr; clear hr)
  go_ret
  exact ⟨ret_bool HC.out, rfl⟩
/-- The rates, the flags behind a level. -/
def putR (R : Rq) (rs : List Rq) (fl : List Int) : List Rq := fl.foldl (fun a i => a.set i.toNat R) rs
def putF (fz : List Bool) (fl : List Int) : List Bool := fl.foldl (fun a i => a.set i.toNat true) fz
theorem putR_snoc (R : Rq) (rs : List Rq) (fl : List Int) (x : Int) : putR R rs (fl ++ [x]) = (putR R rs fl).set x.toNat R := by unfold putR; rw [List.foldl_append]; rfl
theorem putF_snoc (fz : List Bool) (fl : List Int) (x : Int) : putF fz (fl ++ [x]) = (putF fz fl).set x.toNat true := by unfold putF; rw [List.foldl_append]; rfl
theorem putR_len (R : Rq) (rs : List Rq) (fl : List Int) : (putR R rs fl).length = rs.length := by
  induction fl generalizing rs with
  | nil => rfl
  | cons x fl ih => show (putR R (rs.set x.toNat R) fl).length = _; rw [ih, List.length_set]
theorem putF_len (fz : List Bool) (fl : List Int) : (putF fz fl).length = fz.length := by
  induction fl generalizing fz with
  | nil => rfl
  | cons x fl ih => show (putF (fz.set x.toNat true) fl).length = _; rw [ih, List.length_set]
theorem putF_get (fz : List Bool) (fl : List Int) (k : Nat) (hk : k < fz.length) : (putF fz fl)[k]? = some ((fz.getD k false) || fl.any fun x => x.toNat == k) := by
  induction fl generalizing fz with
  | nil => show fz[k]? = _; rw [List.getD_eq_getElem?_getD, List.getElem?_eq_getElem hk]; simp
  | cons x fl ih =>
    show (putF (fz.set x.toNat true) fl)[k]? = _
    rw [ih _ (by rw [List.length_set]; exact hk), List.getD_eq_getElem?_getD, List.getD_eq_getElem?_getD, List.getElem?_set]
    by_cases e : x.toNat = k
    · subst e; simp [hk]
    · rw [if_neg e, List.any_cons, beq_false_of_ne e]; simp
theorem putR_get (R : Rq) (rs : List Rq) (fl : List Int) (k : Nat) (hk : k < rs.length) : (putR R rs fl)[k]? = some (if (fl.any fun x => x.toNat == k) then R else rs.getD k ⟨0, 0⟩) := by
  induction fl generalizing rs with
  | nil => show rs[k]? = _; rw [List.getD_eq_getElem?_getD, List.getElem?_eq_getElem hk]; simp
  | cons x fl ih =>
    show (putR R (rs.set x.toNat R) fl)[k]? = _
    rw [ih _ (by rw [List.length_set]; exact hk), List.getD_eq_getElem?_getD, List.getD_eq_getElem?_getD, List.getElem?_set]
    by_cases e : x.toNat = k
    · subst e; simp [hk]
    · rw [if_neg e, List.any_cons, beq_false_of_ne e]; simp
def stepS (n : PNet) (s : List Rq × List Bool) : List Rq × List Bool := (putR (rateQ n s.2 s.1) s.1 (frzL n s.2 s.1 n.flows.length), putF s.2 (frzL n s.2 s.1 n.flows.length))
/-- The state behind m levels. -/
def itr (n : PNet) : Nat → List Rq × List Bool
  | 0 => (List.replicate n.flows.length ⟨0, 0⟩, List.replicate n.flows.length false)
  | m + 1 => stepS n (itr n m)
theorem itr_len (n : PNet) (m : Nat) : (itr n m).1.length = n.flows.length ∧ (itr n m).2.length = n.flows.length := by
  induction m with
  | zero => exact ⟨List.length_replicate, List.length_replicate⟩
  | succ m ih => unfold itr stepS; dsimp only; rw [putR_len, putF_len]; exact ih
theorem frzL_mem {n : PNet} {fz : List Bool} {rs : List Rq} {k : Nat} {x : Int} : x ∈ frzL n fz rs k ↔ ∃ i : Nat, x = i ∧ i < k ∧ isF fz i = false ∧ hereB n fz rs (flo n i) = true := by
  induction k with
  | zero => simp [frzL]
  | succ k ih =>
    unfold frzL
    split
    · rename_i h
      simp only [Bool.and_eq_true, Bool.not_eq_true'] at h
      rw [List.mem_append, ih, List.mem_singleton]
      constructor
      · rintro (⟨i, h1, h2, h3⟩ | h1)
        · exact ⟨i, h1, by omega, h3⟩
        · exact ⟨k, h1, by omega, h⟩
      · rintro ⟨i, h1, h2, h3⟩
        by_cases e : i = k
        · subst e; exact .inr h1
        · exact .inl ⟨i, h1, by omega, h3⟩
    · rename_i h
      rw [ih]
      constructor
      · rintro ⟨i, h1, h2, h3⟩; exact ⟨i, h1, by omega, h3⟩
      · rintro ⟨i, h1, h2, h3⟩
        refine ⟨i, h1, ?_, h3⟩
        by_cases e : i = k
        · subst e; exact absurd (by rw [h3.1, h3.2]; rfl) h
        · omega
end Go.Proofs.Ytjalegdfofogcaa
