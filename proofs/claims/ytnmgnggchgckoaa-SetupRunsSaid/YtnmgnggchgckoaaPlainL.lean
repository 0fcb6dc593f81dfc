/- Setup: without losses a connection is set up, or refused, and closed: step by step. Plain data. -/
import Derived.Test.YtnmgnggchgckoaaEnd
namespace Go.Proofs.Ytnmgnggchgckoaa
set_option linter.unusedVariables false
set_option linter.unusedSimpArgs false
def runP : Nat → Ch → List Msg → Ch × List Msg × Bool
  | 0, c, f => (c, f, true)
  | _ + 1, c, [] => (c, [], true)
  | k + 1, c, m :: r => if (recvP c m).2.2 = 0 then runP k (recvP c m).1 (r ++ (recvP c m).2.1) else (c, [], false)
theorem runP_nil (k : Nat) (c : Ch) : runP k c [] = (c, [], true) := by cases k <;> rfl
theorem runP_step {k : Nat} {c c1 : Ch} {m : Msg} {f : List Msg} (h : recvP c m = (c1, f, 0)) : runP (k + 1) c [m] = runP k c1 f := by
  simp [runP, h]
theorem send_prev {c : Ch} {k : Int} {j : Nat} (hj : j < c.n) : sendP c k ((j : Int) - 1) = if j = 0 then [] else [⟨k, c.conn, ((j - 1 : Nat) : Int)⟩] := by
  by_cases h0 : j = 0
  · subst h0
    rw [if_pos rfl]
    unfold sendP
    rw [if_neg (by rw [hasB_iff]; omega)]
  · rw [if_neg h0]
    unfold sendP
    rw [if_pos (hasB_iff.2 ⟨by omega, by omega⟩), show ((j - 1 : Nat) : Int) = (j : Int) - 1 by omega]
theorem send_next {c : Ch} {k : Int} {j : Nat} (hj : j + 1 < c.n) : sendP c k ((j : Int) + 1) = [⟨k, c.conn, (j : Int) + 1⟩] := by
  unfold sendP
  rw [if_pos (hasB_iff.2 ⟨by omega, by omega⟩)]
/-- A kind of answer that goes back. -/
structure Back (k a b : Int) : Prop where
  kind : k = 2 ∨ k = 3 ∨ k = 5
  rule : ∀ (c : Ch) (i : Nat), ruleP c ⟨k, c.conn, i⟩ = turnP c i a b k
theorem back2 : Back 2 1 2 := ⟨.inl rfl, fun c i => by simp [ruleP]⟩
theorem back3 : Back 3 1 3 := ⟨.inr (.inl rfl), fun c i => by simp [ruleP]⟩
theorem back5 : Back 5 4 5 := ⟨.inr (.inr rfl), fun c i => by simp [ruleP]⟩
theorem run_back {k a b : Int} (hb : Back k a b) (j : Nat) : ∀ (c : Ch) (fuel : Nat), j + 1 < c.n → (∀ i, i ≤ j → c.st i = a) → j + 1 ≤ fuel →
    ∃ c', runP fuel c [⟨k, c.conn, j⟩] = (c', [], true) ∧ Alike c c' ∧ (∀ i, i ≤ j → c'.st i = b) ∧ ∀ i, j < i → c'.st i = c.st i := by
  induction j with
  | zero =>
    intro c fuel hj ha hf
    obtain ⟨f, rfl⟩ : ∃ f, fuel = f + 1 := ⟨fuel - 1, by omega⟩
    have h1 := recv_back hj hb.kind
    rw [hb.rule, turnP, if_pos (ha 0 (by omega)), send_prev (by omega), if_pos rfl] at h1
    refine ⟨c.put 0 b, by rw [runP_step h1, runP_nil], alike_put _ _ _, fun i hi => ?_, fun i hi => ?_⟩
    · obtain rfl : i = 0 := by omega
      exact put_same c b (by omega)
    · rw [put_st c b i (by omega), if_neg (by omega)]
  | succ j ih =>
    intro c fuel hj ha hf
    obtain ⟨f, rfl⟩ : ∃ f, fuel = f + 1 := ⟨fuel - 1, by omega⟩
    have h1 := recv_back hj hb.kind
    rw [hb.rule, turnP, if_pos (ha (j + 1) (by omega)), send_prev (by omega), if_neg (by omega)] at h1
    obtain ⟨c', e1, e2, e3, e4⟩ := ih (c.put (j + 1) b) f (by rw [put_n]; omega) (fun i hi => by rw [put_st c b i (by omega), if_neg (by omega)]; exact ha i (by omega)) (by omega)
    refine ⟨c', ?_, (alike_put c (j + 1) b).trans e2, fun i hi => ?_, fun i hi => ?_⟩
    · rw [runP_step h1]; exact e1
    · rcases Nat.lt_or_ge j i with h2 | h2
      · obtain rfl : i = j + 1 := by omega
        rw [e4 _ h2]; exact put_same c b (by omega)
      · exact e3 i h2
    · rw [e4 i (by omega), put_st c b i (by omega), if_neg (by omega)]
/-- How an opening ends. -/
structure Opened (c c' : Ch) : Prop where
  alike : Alike c c'
  all : (∀ i, i < c.n → c.need ≤ c.room i) → ∀ i, i < c.n → c'.st i = 2
  none_ : (∃ i, i < c.n ∧ c.room i < c.need) → c'.st 0 = 3
theorem run_open (d : Nat) : ∀ (c : Ch) (j fuel : Nat), c.n - (j + 1) = d → j + 1 < c.n → (∀ i, i ≤ j → c.st i = 1) → (∀ i, j < i → i < c.n → c.st i = 0) → (∀ i, i ≤ j → c.need ≤ c.room i) → d + c.n ≤ fuel →
    ∃ c', runP fuel c [⟨1, c.conn, (j : Int) + 1⟩] = (c', [], true) ∧ Opened c c' := by
  induction d with
  | zero => intro c j fuel h1 h2; omega
  | succ d ih =>
    intro c j fuel hd hj h1 h0 hr hf
    obtain ⟨f, rfl⟩ : ∃ f, fuel = f + 1 := ⟨fuel - 1, by omega⟩
    have hq := recv_open hj
    have hz := h0 (j + 1) (by omega) hj
    unfold openP at hq
    rw [if_pos hz] at hq
    have hsp : ∀ k, sendP c k (((j + 1 : Nat) : Int) - 1) = [⟨k, c.conn, j⟩] := fun k => by rw [send_prev hj, if_neg (by omega)]; rfl
    by_cases hfull : c.room (j + 1) < c.need
    · rw [if_pos hfull, hsp] at hq
      obtain ⟨c', e1, e2, e3, e4⟩ := run_back back3 j (c.put (j + 1) 3) f (by rw [put_n]; omega) (fun i hi => by rw [put_st c 3 i hj, if_neg (by omega)]; exact h1 i hi) (by omega)
      exact ⟨c', by rw [runP_step hq]; exact e1, (alike_put _ _ _).trans e2, fun ha => by have := ha (j + 1) hj; omega, fun _ => e3 0 (by omega)⟩
    · rw [if_neg hfull] at hq
      by_cases hl : j + 1 + 1 = c.n
      · rw [if_pos hl, hsp] at hq
        obtain ⟨c', e1, e2, e3, e4⟩ := run_back back2 j (c.put (j + 1) 2) f (by rw [put_n]; omega) (fun i hi => by rw [put_st c 2 i hj, if_neg (by omega)]; exact h1 i hi) (by omega)
        refine ⟨c', by rw [runP_step hq]; exact e1, (alike_put _ _ _).trans e2, fun _ i hi => ?_, fun ⟨i, hi, hr2⟩ => ?_⟩
        · rcases Nat.lt_or_ge j i with h2 | h2
          · obtain rfl : i = j + 1 := by omega
            rw [e4 _ h2]; exact put_same c 2 hj
          · exact e3 i h2
        · rcases Nat.lt_or_ge j i with h2 | h2
          · obtain rfl : i = j + 1 := by omega
            omega
          · have := hr i h2; omega
      · rw [if_neg hl, send_next (by omega)] at hq
        obtain ⟨c', e1, e2⟩ := ih (c.put (j + 1) 1) (j + 1) f (by rw [put_n]; omega) (by rw [put_n]; omega)
          (fun i hi => by rw [put_st c 1 i hj]; split; rfl; exact h1 i (by omega))
          (fun i h2 h3 => by rw [put_n] at h3; rw [put_st c 1 i hj, if_neg (by omega)]; exact h0 i (by omega) h3)
          (fun i hi => by
            show c.need ≤ c.room i
            rcases Nat.lt_or_ge j i with h2 | h2
            · obtain rfl : i = j + 1 := by omega
              omega
            · exact hr i h2) (by rw [put_n]; omega)
        refine ⟨c', by rw [runP_step hq]; exact e1, ⟨(alike_put _ _ _).trans e2.alike, fun ha i hi => e2.all (fun i hi => by rw [put_n] at hi; exact ha i hi) i (by rwa [put_n]), fun ⟨i, hi, hr2⟩ => e2.none_ ⟨i, by rwa [put_n], hr2⟩⟩⟩
theorem run_close (d : Nat) : ∀ (c : Ch) (j fuel : Nat), c.n - (j + 1) = d → j + 1 < c.n → (∀ i, i ≤ j → c.st i = 4) → (∀ i, j < i → i < c.n → c.st i = 2) → d + c.n ≤ fuel →
    ∃ c', runP fuel c [⟨4, c.conn, (j : Int) + 1⟩] = (c', [], true) ∧ Alike c c' ∧ ∀ i, i < c.n → c'.st i = 5 := by
  induction d with
  | zero => intro c j fuel h1 h2; omega
  | succ d ih =>
    intro c j fuel hd hj h1 h0 hf
    obtain ⟨f, rfl⟩ : ∃ f, fuel = f + 1 := ⟨fuel - 1, by omega⟩
    have hq := recv_close hj
    have hz := h0 (j + 1) (by omega) hj
    unfold closeP at hq
    rw [if_pos (.inr hz)] at hq
    by_cases hl : j + 1 + 1 = c.n
    · rw [if_pos hl, send_prev hj, if_neg (by omega)] at hq
      obtain ⟨c', e1, e2, e3, e4⟩ := run_back back5 j (c.put (j + 1) 5) f (by rw [put_n]; omega) (fun i hi => by rw [put_st c 5 i hj, if_neg (by omega)]; exact h1 i hi) (by omega)
      refine ⟨c', by rw [runP_step hq]; exact e1, (alike_put _ _ _).trans e2, fun i hi => ?_⟩
      rcases Nat.lt_or_ge j i with h2 | h2
      · obtain rfl : i = j + 1 := by omega
        rw [e4 _ h2]; exact put_same c 5 hj
      · exact e3 i h2
    · rw [if_neg hl, send_next (by omega)] at hq
      obtain ⟨c', e1, e2, e3⟩ := ih (c.put (j + 1) 4) (j + 1) f (by rw [put_n]; omega) (by rw [put_n]; omega)
        (fun i hi => by rw [put_st c 4 i hj]; split; rfl; exact h1 i (by omega))
        (fun i h2 h3 => by rw [put_n] at h3; rw [put_st c 4 i hj, if_neg (by omega)]; exact h0 i (by omega) h3) (by rw [put_n]; omega)
      exact ⟨c', by rw [runP_step hq]; exact e1, (alike_put _ _ _).trans e2, fun i hi => e3 i (by rwa [put_n])⟩
/-- Start, and all that follows. -/
theorem start_run {c : Ch} (h1 : 1 ≤ c.n) (h0 : ∀ i, i < c.n → c.st i = 0) : (startP c).2.1.length ≤ 1 ∧ ∃ c', runP (4 * c.n) (startP c).1 (startP c).2.1 = (c', [], true) ∧ Opened c c' ∧ ((c.need ≤ c.room 0 ∧ (startP c).2.2 = 0) ∨ (c.room 0 < c.need ∧ (startP c).2.2 = 5)) := by
  have hz := h0 0 (by omega)
  unfold startP
  rw [if_pos hz]
  unfold openP
  rw [if_pos hz]
  by_cases hf : c.room 0 < c.need
  · rw [if_pos hf]
    show (sendP c 3 (((0 : Nat) : Int) - 1)).length ≤ 1 ∧ ∃ c', runP (4 * c.n) (c.put 0 3) (sendP c 3 (((0 : Nat) : Int) - 1)) = (c', [], true) ∧ Opened c c' ∧ ((c.need ≤ c.room 0 ∧ _ = (0 : Int)) ∨ (c.room 0 < c.need ∧ _ = (5 : Int)))
    rw [send_prev (by omega), if_pos rfl, runP_nil]
    have hp := put_same c 3 (show 0 < c.n by omega)
    exact ⟨by simp, _, rfl, ⟨alike_put _ _ _, fun ha => by have := ha 0 (by omega); omega, fun _ => hp⟩, .inr ⟨hf, by rw [if_pos hp]⟩⟩
  · rw [if_neg hf]
    by_cases hl : 0 + 1 = c.n
    · rw [if_pos hl]
      show (sendP c 2 (((0 : Nat) : Int) - 1)).length ≤ 1 ∧ ∃ c', runP (4 * c.n) (c.put 0 2) (sendP c 2 (((0 : Nat) : Int) - 1)) = (c', [], true) ∧ Opened c c' ∧ ((c.need ≤ c.room 0 ∧ _ = (0 : Int)) ∨ (c.room 0 < c.need ∧ _ = (5 : Int)))
      rw [send_prev (by omega), if_pos rfl, runP_nil]
      have hp := put_same c 2 (show 0 < c.n by omega)
      refine ⟨by simp, _, rfl, ⟨alike_put _ _ _, fun _ i hi => ?_, fun ⟨i, hi, hr⟩ => ?_⟩, .inl ⟨by omega, by rw [if_neg (by rw [hp]; omega)]⟩⟩
      · obtain rfl : i = 0 := by omega
        exact hp
      · obtain rfl : i = 0 := by omega
        omega
    · rw [if_neg hl]
      show (sendP c 1 (((0 : Nat) : Int) + 1)).length ≤ 1 ∧ ∃ c', runP (4 * c.n) (c.put 0 1) (sendP c 1 (((0 : Nat) : Int) + 1)) = (c', [], true) ∧ Opened c c' ∧ ((c.need ≤ c.room 0 ∧ _ = (0 : Int)) ∨ (c.room 0 < c.need ∧ _ = (5 : Int)))
      rw [send_next (by omega)]
      have hp := put_same c 1 (show 0 < c.n by omega)
      obtain ⟨c', e1, e2⟩ := run_open (c.n - 1) (c.put 0 1) 0 (4 * c.n) (by rw [put_n]) (by rw [put_n]; omega)
        (fun i hi => by obtain rfl : i = 0 := by omega
                        exact hp)
        (fun i h2 h3 => by rw [put_n] at h3; rw [put_st c 1 i (by omega), if_neg (by omega)]; exact h0 i h3)
        (fun i hi => by obtain rfl : i = 0 := by omega
                        show c.need ≤ c.room 0
                        omega) (by rw [put_n]; omega)
      refine ⟨by simp, c', e1, ⟨(alike_put _ _ _).trans e2.alike, fun ha i hi => e2.all (fun i hi => by rw [put_n] at hi; exact ha i hi) i (by rwa [put_n]), fun ⟨i, hi, hr2⟩ => e2.none_ ⟨i, by rwa [put_n], hr2⟩⟩, .inl ⟨by omega, by rw [if_neg (by rw [hp]; omega)]⟩⟩
/-- Stop, and all that follows. -/
theorem stop_run {c : Ch} (h1 : 1 ≤ c.n) (h2 : ∀ i, i < c.n → c.st i = 2) : (stopP c).2.1.length ≤ 1 ∧ (stopP c).2.2 = 0 ∧ ∃ c', runP (4 * c.n) (stopP c).1 (stopP c).2.1 = (c', [], true) ∧ Alike c c' ∧ ∀ i, i < c.n → c'.st i = 5 := by
  have hz := h2 0 (by omega)
  unfold stopP
  rw [if_pos (.inr hz)]
  unfold closeP
  rw [if_pos (.inr hz)]
  by_cases hl : 0 + 1 = c.n
  · rw [if_pos hl]
    show (sendP c 5 (((0 : Nat) : Int) - 1)).length ≤ 1 ∧ (0 : Int) = 0 ∧ ∃ c', runP (4 * c.n) (c.put 0 5) (sendP c 5 (((0 : Nat) : Int) - 1)) = (c', [], true) ∧ _
    rw [send_prev (by omega), if_pos rfl, runP_nil]
    refine ⟨by simp, rfl, _, rfl, alike_put _ _ _, fun i hi => ?_⟩
    obtain rfl : i = 0 := by omega
    exact put_same c 5 (by omega)
  · rw [if_neg hl]
    show (sendP c 4 (((0 : Nat) : Int) + 1)).length ≤ 1 ∧ (0 : Int) = 0 ∧ ∃ c', runP (4 * c.n) (c.put 0 4) (sendP c 4 (((0 : Nat) : Int) + 1)) = (c', [], true) ∧ _
    rw [send_next (by omega)]
    obtain ⟨c', e1, e2, e3⟩ := run_close (c.n - 1) (c.put 0 4) 0 (4 * c.n) (by rw [put_n]) (by rw [put_n]; omega)
      (fun i hi => by obtain rfl : i = 0 := by omega
                      exact put_same c 4 (by omega))
      (fun i h3 h4 => by rw [put_n] at h4; rw [put_st c 4 i (by omega), if_neg (by omega)]; exact h2 i h4) (by rw [put_n]; omega)
    exact ⟨by simp, rfl, c', e1, (alike_put _ _ _).trans e2, fun i hi => e3 i (by rwa [put_n])⟩
end Go.Proofs.Ytnmgnggchgckoaa
