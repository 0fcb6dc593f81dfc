/- Setup: with repetition every chain comes to rest, and how. Plain data. -/
import Derived.Test.YtnmgnggchgckoaaOps
namespace Go.Proofs.Ytnmgnggchgckoaa
set_option linter.unusedVariables false
set_option linter.unusedSimpArgs false
def rank (s : Int) : Nat := if s = 0 then 0 else if s = 1 then 1 else if s = 2 then 2 else if s = 4 then 3 else 4
theorem rank_le (s : Int) : rank s ≤ 4 := by unfold rank; repeat' split
                                             all_goals omega
def pot (c : Ch) : Nat := (c.states.map rank).sum
theorem sum_set (l : List Int) (j : Nat) (s : Int) (hj : j < l.length) : ((l.set j s).map rank).sum + rank (l.getD j 0) = (l.map rank).sum + rank s := by
  induction l generalizing j with
  | nil => simp at hj
  | cons a l ih =>
    cases j with
    | zero => simp; omega
    | succ j =>
      have := ih j (by simpa using hj)
      simp only [List.set_cons_succ, List.map_cons, List.sum_cons, List.getD_cons_succ]
      omega
theorem sum_le (l : List Int) : (l.map rank).sum ≤ 4 * l.length := by
  induction l with
  | nil => simp
  | cons a l ih => simp only [List.map_cons, List.sum_cons, List.length_cons]; have := rank_le a; omega
theorem sum_full (l : List Int) (h : 4 * l.length ≤ (l.map rank).sum) : ∀ x ∈ l, rank x = 4 := by
  induction l with
  | nil => simp
  | cons a l ih =>
    simp only [List.map_cons, List.sum_cons, List.length_cons] at h
    have := rank_le a
    have := sum_le l
    intro x hx
    rcases List.mem_cons.1 hx with rfl | hx
    · omega
    · exact ih (by omega) x hx
theorem pot_put (c : Ch) {j : Nat} (s : Int) (hj : j < c.n) : pot (c.put j s) + rank (c.st j) = pot c + rank s := sum_set c.states j s hj
theorem pot_le (c : Ch) : pot c ≤ 4 * c.n := sum_le c.states
theorem put_out (c : Ch) {j : Nat} (s : Int) (hj : c.n ≤ j) : c.put j s = c := by
  unfold Ch.put; rw [List.set_eq_of_length_le hj]
/-- A chain stays, or comes nearer to rest. -/
def Up (c c' : Ch) : Prop := c' = c ∨ pot c < pot c'
theorem Up.refl (c : Ch) : Up c c := .inl rfl
theorem Up.trans {a b c : Ch} (h : Up a b) (k : Up b c) : Up a c := by
  rcases h with rfl | h
  · exact k
  · rcases k with rfl | k
    · exact .inr h
    · exact .inr (by omega)
theorem Up.le {a b : Ch} (h : Up a b) : pot a ≤ pot b := by
  rcases h with rfl | h
  · exact Nat.le_refl _
  · omega
theorem up_put (c : Ch) (j : Nat) (s : Int) (h : rank (c.st j) < rank s) : Up c (c.put j s) := by
  rcases Nat.lt_or_ge j c.n with hj | hj
  · have := pot_put c s hj; exact .inr (by omega)
  · rw [put_out c s hj]; exact .inl rfl
theorem pot_lt (c : Ch) {j : Nat} (s : Int) (hj : j < c.n) (h : rank (c.st j) < rank s) : pot c < pot (c.put j s) := by
  have := pot_put c s hj; omega
theorem up_open (c : Ch) (i : Nat) : Up c (openP c i).1 := by
  unfold openP
  split
  · rename_i h0
    split
    · exact up_put _ _ _ (by rw [h0]; decide)
    · split
      · exact up_put _ _ _ (by rw [h0]; decide)
      · exact up_put _ _ _ (by rw [h0]; decide)
  · repeat' split
    all_goals exact Up.refl _
theorem up_close (c : Ch) (i : Nat) : Up c (closeP c i).1 := by
  unfold closeP
  split
  · rename_i h12
    split
    · exact up_put _ _ _ (by rcases h12 with h | h <;> rw [h] <;> decide)
    · exact up_put _ _ _ (by rcases h12 with h | h <;> rw [h] <;> decide)
  · split
    · rename_i h0; exact up_put _ _ _ (by rw [h0]; decide)
    · split
      all_goals exact Up.refl _
theorem up_turn (c : Ch) (i : Nat) {a b : Int} (k : Int) (h : rank a < rank b) : Up c (turnP c i a b k).1 := by
  unfold turnP
  split
  · rename_i h0; exact up_put _ _ _ (by rw [h0]; exact h)
  · exact Up.refl _
theorem up_recv (c : Ch) (m : Msg) : Up c (recvP c m).1 := by
  unfold recvP
  repeat' split
  all_goals first | exact Up.refl _ | skip
  unfold ruleP
  repeat' split
  · exact up_open _ _
  · exact up_turn _ _ _ (by decide)
  · exact up_turn _ _ _ (by decide)
  · exact up_close _ _
  · exact up_turn _ _ _ (by decide)
def answer (c : Ch) (l : List Msg) : Ch := l.foldl (fun c x => (recvP c x).1) c
def deliver (c : Ch) (m : Msg) : Ch := answer (recvP c m).1 (recvP c m).2.1
def deliverAll (c : Ch) (l : List Msg) : Ch := l.foldl deliver c
def roundP (c : Ch) : Ch := deliverAll c (repP c)
theorem up_answer (c : Ch) (l : List Msg) : Up c (answer c l) := by
  induction l generalizing c with
  | nil => exact Up.refl _
  | cons m l ih => exact (up_recv c m).trans (ih _)
theorem up_deliver (c : Ch) (m : Msg) : Up c (deliver c m) := (up_recv c m).trans (up_answer _ _)
theorem up_all (c : Ch) (l : List Msg) : Up c (deliverAll c l) := by
  induction l generalizing c with
  | nil => exact Up.refl _
  | cons m l ih => exact (up_deliver c m).trans (ih _)
theorem all_lt {c : Ch} {l : List Msg} {m : Msg} (hm : m ∈ l) (h : pot c < pot (deliver c m)) : pot c < pot (deliverAll c l) := by
  induction l with
  | nil => simp at hm
  | cons x l ih =>
    show pot c < pot (deliverAll (deliver c x) l)
    rcases up_deliver c x with e | e
    · rw [e]
      rcases List.mem_cons.1 hm with rfl | hm
      · rw [e] at h; omega
      · exact ih hm
    · have := (up_all (deliver c x) l).le; omega
theorem inv_answer {c : Ch} {fly l : List Msg} (h : Inv c fly) (hl : ∀ m ∈ l, m ∈ fly) : Inv (answer c l) fly := by
  induction l generalizing c with
  | nil => exact h
  | cons m l ih => exact ih ((inv_recv h (h.msg m (hl m (by simp)))).sub fun x hx => List.mem_append.2 (.inl hx)) fun x hx => hl x (by simp [hx])
theorem inv_deliver {c : Ch} {fly : List Msg} {m : Msg} (h : Inv c fly) (hm : m ∈ fly) : Inv (deliver c m) fly :=
  (inv_answer (inv_recv h (h.msg m hm)) fun x hx => List.mem_append.2 (.inr hx)).sub fun x hx => List.mem_append.2 (.inl hx)
theorem inv_all {c : Ch} {fly l : List Msg} (h : Inv c fly) (hl : ∀ m ∈ l, m ∈ fly) : Inv (deliverAll c l) fly := by
  induction l generalizing c with
  | nil => exact h
  | cons m l ih => exact ih (inv_deliver h (hl m (by simp))) fun x hx => hl x (by simp [hx])
theorem inv_round {c : Ch} (h : Inv c []) : Inv (roundP c) [] :=
  (inv_all (fly := repP c) (by have := h.add (inv_rep h); simpa using this) fun m hm => hm).sub (by simp)
theorem recv_open {c : Ch} {i : Nat} (hi : i + 1 < c.n) : recvP c ⟨1, c.conn, (i : Int) + 1⟩ = ((openP c (i + 1)).1, (openP c (i + 1)).2, 0) := by
  have h1 : c.hasB ((i : Int) + 1) = true := hasB_iff.2 ⟨by omega, by omega⟩
  have h2 : c.hasB (fromP ⟨1, c.conn, (i : Int) + 1⟩) = true := hasB_iff.2 (by simp [fromP, wayP]; omega)
  unfold recvP
  rw [if_neg (by simp), if_neg (by simp), if_pos (by rw [h1, h2]; rfl)]
  simp [ruleP, show ((i : Int) + 1).toNat = i + 1 by omega]
theorem recv_close {c : Ch} {i : Nat} (hi : i + 1 < c.n) : recvP c ⟨4, c.conn, (i : Int) + 1⟩ = ((closeP c (i + 1)).1, (closeP c (i + 1)).2, 0) := by
  have h1 : c.hasB ((i : Int) + 1) = true := hasB_iff.2 ⟨by omega, by omega⟩
  have h2 : c.hasB (fromP ⟨4, c.conn, (i : Int) + 1⟩) = true := hasB_iff.2 (by simp [fromP, wayP]; omega)
  unfold recvP
  rw [if_neg (by simp), if_neg (by simp), if_pos (by rw [h1, h2]; rfl)]
  simp [ruleP, show ((i : Int) + 1).toNat = i + 1 by omega]
theorem recv_back {c : Ch} {i : Nat} {k : Int} (hi : i + 1 < c.n) (hk : k = 2 ∨ k = 3 ∨ k = 5) : recvP c ⟨k, c.conn, i⟩ = ((ruleP c ⟨k, c.conn, i⟩).1, (ruleP c ⟨k, c.conn, i⟩).2, 0) := by
  have h1 : c.hasB (i : Int) = true := hasB_iff.2 ⟨by omega, by omega⟩
  have h2 : c.hasB (fromP ⟨k, c.conn, i⟩) = true := hasB_iff.2 (by rcases hk with rfl | rfl | rfl <;> simp [fromP, wayP] <;> omega)
  unfold recvP
  rw [if_neg (by rcases hk with rfl | rfl | rfl <;> simp), if_neg (by simp), if_pos (by rw [h1, h2]; rfl)]
theorem send_one {c : Ch} {k : Int} {j : Nat} (hj : j + 1 < c.n) : sendP c k (((j + 1 : Nat) : Int) - 1) = [⟨k, c.conn, j⟩] := by
  unfold sendP
  rw [if_pos (hasB_iff.2 ⟨by omega, by omega⟩), show ((j + 1 : Nat) : Int) - 1 = j by omega]
/-- Some message that is repeated turns something. -/
theorem progress {c : Ch} {fly : List Msg} (h : Inv c fly) {j : Nat} (hj : j < c.n) (hs : c.st j = 1 ∨ c.st j = 4) (hmax : ∀ k, j < k → k < c.n → c.st k ≠ 1 ∧ c.st k ≠ 4) : ∃ m ∈ repP c, pot c < pot (deliver c m) := by
  have hl := h.last
  have hj1 : j + 1 < c.n := by
    rcases Nat.lt_or_ge (j + 1) c.n with h1 | h1
    · exact h1
    · have e : j = c.n - 1 := by omega
      subst e; omega
  have hp := h.pair j hj1
  obtain ⟨x1, x4⟩ := hmax (j + 1) (by omega) hj1
  have hup : ∀ c' : Ch, pot c < pot c' → ∀ l, pot c < pot (answer c' l) := fun c' h' l => by have := (up_answer c' l).le; omega
  rcases hs with hs | hs
  · refine ⟨⟨1, c.conn, (j : Int) + 1⟩, repN_mem hj (by unfold repI sendP; rw [if_pos hs, if_pos (hasB_iff.2 ⟨by omega, by omega⟩)]; simp), ?_⟩
    unfold deliver
    rw [recv_open hj1]
    unfold P0 at hp
    have hb : c.st (j + 1) = 0 ∨ c.st (j + 1) = 2 ∨ c.st (j + 1) = 3 := by omega
    rcases hb with hb | hb | hb
    · refine hup _ ?_ _
      unfold openP
      rw [if_pos hb]
      split
      · exact pot_lt _ _ hj1 (by rw [hb]; decide)
      · split
        · exact pot_lt _ _ hj1 (by rw [hb]; decide)
        · exact pot_lt _ _ hj1 (by rw [hb]; decide)
    · have e : openP c (j + 1) = (c, [⟨2, c.conn, j⟩]) := by unfold openP; rw [if_neg (by omega), if_pos hb, send_one hj1]
      rw [e]
      show pot c < pot (recvP c ⟨2, c.conn, j⟩).1
      rw [recv_back hj1 (.inl rfl)]
      simp only [ruleP, show ¬ (2 : Int) = 1 by omega, if_false, if_true, Int.toNat_natCast, turnP, hs]
      exact pot_lt _ _ hj (by rw [hs]; decide)
    · have e : openP c (j + 1) = (c, [⟨3, c.conn, j⟩]) := by unfold openP; rw [if_neg (by omega), if_neg (by omega), if_pos hb, send_one hj1]
      rw [e]
      show pot c < pot (recvP c ⟨3, c.conn, j⟩).1
      rw [recv_back hj1 (.inr (.inl rfl))]
      simp only [ruleP, show ¬ (3 : Int) = 1 by omega, show ¬ (3 : Int) = 2 by omega, if_false, if_true, Int.toNat_natCast, turnP, hs]
      exact pot_lt _ _ hj (by rw [hs]; decide)
  · refine ⟨⟨4, c.conn, (j : Int) + 1⟩, repN_mem hj (by unfold repI sendP; rw [if_neg (by omega), if_pos hs, if_pos (hasB_iff.2 ⟨by omega, by omega⟩)]; simp), ?_⟩
    unfold deliver
    rw [recv_close hj1]
    unfold P0 at hp
    have hb : c.st (j + 1) = 0 ∨ c.st (j + 1) = 2 ∨ c.st (j + 1) = 3 ∨ c.st (j + 1) = 5 := by omega
    rcases hb with hb | hb | hb | hb
    · refine hup _ ?_ _
      unfold closeP
      rw [if_neg (by omega), if_pos hb]
      exact pot_lt _ _ hj1 (by rw [hb]; decide)
    · refine hup _ ?_ _
      unfold closeP
      rw [if_pos (by omega)]
      split
      · exact pot_lt _ _ hj1 (by rw [hb]; decide)
      · exact pot_lt _ _ hj1 (by rw [hb]; decide)
    all_goals
      have e : closeP c (j + 1) = (c, [⟨5, c.conn, j⟩]) := by unfold closeP; rw [if_neg (by omega), if_neg (by omega), if_neg (by omega), send_one hj1]
      rw [e]
      show pot c < pot (recvP c ⟨5, c.conn, j⟩).1
      rw [recv_back hj1 (.inr (.inr rfl))]
      simp only [ruleP, show ¬ (5 : Int) = 1 by omega, show ¬ (5 : Int) = 2 by omega, show ¬ (5 : Int) = 3 by omega, show ¬ (5 : Int) = 4 by omega, if_false, if_true, Int.toNat_natCast, turnP, hs]
      exact pot_lt _ _ hj (by rw [hs]; decide)
theorem last_of (p : Nat → Prop) (n : Nat) (h : ∃ i, i < n ∧ p i) : ∃ j, j < n ∧ p j ∧ ∀ k, j < k → k < n → ¬ p k := by
  induction n with
  | zero => obtain ⟨i, hi, _⟩ := h; omega
  | succ n ih =>
    by_cases hp : p n
    · exact ⟨n, by omega, hp, fun k h1 h2 => by omega⟩
    · obtain ⟨i, hi, hpi⟩ := h
      obtain ⟨j, hj, h1, h2⟩ := ih ⟨i, by rcases Nat.lt_or_ge i n with h' | h'
                                          · exact h'
                                          · obtain rfl : i = n := by omega
                                            exact absurd hpi hp, hpi⟩
      refine ⟨j, by omega, h1, fun k h3 h4 => ?_⟩
      rcases Nat.lt_or_ge k n with h' | h'
      · exact h2 k h3 h'
      · obtain rfl : k = n := by omega
        exact hp
theorem round_lt {c : Ch} (h : Inv c []) (hr : repP c ≠ []) : pot c < pot (roundP c) := by
  obtain ⟨m, hm⟩ := List.exists_mem_of_ne_nil _ hr
  obtain ⟨i, hi, hm⟩ := mem_repN hm
  have hs : c.st i = 1 ∨ c.st i = 4 := by
    unfold repI at hm
    split at hm
    · exact .inl ‹_›
    · split at hm
      · exact .inr ‹_›
      · simp at hm
  obtain ⟨j, hj, h1, h2⟩ := last_of (fun i => c.st i = 1 ∨ c.st i = 4) c.n ⟨i, hi, hs⟩
  obtain ⟨m, hm, hlt⟩ := progress h hj h1 fun k h3 h4 => not_or.1 (h2 k h3 h4)
  exact all_lt hm hlt
def roundsP (c : Ch) : Nat → Ch
  | 0 => c
  | k + 1 => roundP (roundsP c k)
theorem inv_rounds {c : Ch} (h : Inv c []) (k : Nat) : Inv (roundsP c k) [] := by
  induction k with
  | zero => exact h
  | succ k ih => exact inv_round ih
theorem round_rest {c : Ch} (hr : repP c = []) : roundP c = c := by unfold roundP; rw [hr]; rfl
theorem rounds_go {c : Ch} (h : Inv c []) (k : Nat) : repP (roundsP c k) = [] ∨ k ≤ pot (roundsP c k) := by
  induction k with
  | zero => exact .inr (Nat.zero_le _)
  | succ k ih =>
    by_cases hr : repP (roundsP c k) = []
    · left
      show repP (roundP (roundsP c k)) = []
      rw [round_rest hr]; exact hr
    · have h1 := round_lt (inv_rounds h k) hr
      rcases ih with h2 | h2
      · exact absurd h2 hr
      · exact .inr (by show k + 1 ≤ pot (roundP (roundsP c k)); omega)
theorem alike_answer (c : Ch) (l : List Msg) : Alike c (answer c l) := by
  induction l generalizing c with
  | nil => exact Alike.refl _
  | cons m l ih => exact (alike_recv c m).trans (ih _)
theorem alike_all (c : Ch) (l : List Msg) : Alike c (deliverAll c l) := by
  induction l generalizing c with
  | nil => exact Alike.refl _
  | cons m l ih => exact ((alike_recv c m).trans (alike_answer _ _)).trans (ih _)
theorem alike_rounds (c : Ch) (k : Nat) : Alike c (roundsP c k) := by
  induction k with
  | zero => exact Alike.refl _
  | succ k ih => exact ih.trans (alike_all _ _)
theorem st_mem {c : Ch} {i : Nat} (hi : i < c.n) : c.st i ∈ c.states := by
  unfold Ch.st
  rw [List.getD_eq_getElem?_getD, List.getElem?_eq_getElem hi]
  exact List.getElem_mem hi
theorem rest_end {c : Ch} (h : Inv c []) : repP (roundsP c (4 * c.n)) = [] := by
  have ha := alike_rounds c (4 * c.n)
  rcases rounds_go h (4 * c.n) with h1 | h1
  · exact h1
  · have hf := sum_full (roundsP c (4 * c.n)).states (by show 4 * (roundsP c (4 * c.n)).n ≤ pot _; rw [ha.n]; exact h1)
    rcases hr : repP (roundsP c (4 * c.n)) with _ | ⟨m, l⟩
    · rfl
    · have hmem : m ∈ repP (roundsP c (4 * c.n)) := by rw [hr]; simp
      obtain ⟨i, hi, hm⟩ := mem_repN hmem
      have hk := hf _ (st_mem hi)
      unfold repI at hm
      split at hm
      · rename_i e; rw [e] at hk; simp [rank] at hk
      · split at hm
        · rename_i e; rw [e] at hk; simp [rank] at hk
        · simp at hm
theorem rest_states {c : Ch} {fly : List Msg} (h : Inv c fly) (hr : repP c = []) {i : Nat} (hi : i < c.n) : c.st i ≠ 1 ∧ c.st i ≠ 4 := by
  have key : i + 1 < c.n → c.st i ≠ 1 ∧ c.st i ≠ 4 := fun h1 => by
    have hx : repI c i = [] := by
      rcases hq : repI c i with _ | ⟨m, l⟩
      · rfl
      · have : m ∈ repP c := repN_mem hi (by rw [hq]; simp)
        rw [hr] at this; simp at this
    have hb : c.hasB ((i : Int) + 1) = true := hasB_iff.2 ⟨by omega, by omega⟩
    unfold repI sendP at hx
    rw [if_pos hb, if_pos hb] at hx
    constructor
    · intro e; rw [if_pos e] at hx; simp at hx
    · intro e; rw [if_neg (by omega), if_pos e] at hx; simp at hx
  rcases Nat.lt_or_ge (i + 1) c.n with h1 | h1
  · exact key h1
  · obtain rfl : i = c.n - 1 := by omega
    exact h.last
/-- The four ways to rest. -/
theorem rest_joined {c : Ch} {fly : List Msg} (h : Inv c fly) (h0 : c.st 0 = 2) {i : Nat} (hi : i < c.n) : c.st i = 2 := by
  induction i with
  | zero => exact h0
  | succ i ih => have := h.pair i hi; have := ih (by omega); unfold P0 at *; omega
theorem rest_free {c : Ch} {fly : List Msg} (h : Inv c fly) (hr : repP c = []) (h0 : c.st 0 ≠ 2) {i : Nat} (hi : i < c.n) : c.st i = 0 ∨ c.st i = 3 ∨ c.st i = 5 := by
  have h4 := rest_states h hr hi
  have h5 := h.ok.st i hi
  have h2 : c.st i ≠ 2 := by
    clear h4 h5
    induction i with
    | zero => exact h0
    | succ i ih =>
      have hq := h.pair i hi
      have h3 := ih (by omega)
      have h6 := rest_states h hr (i := i) (by omega)
      unfold P0 at hq
      omega
  omega
theorem refused_some {c : Ch} {fly : List Msg} (h : Inv c fly) {i : Nat} (hi : i < c.n) (h3 : c.st i = 3) : ∃ j, j < c.n ∧ c.room j < c.need := by
  obtain ⟨d, hd⟩ : ∃ d, c.n - i = d := ⟨_, rfl⟩
  induction d generalizing i with
  | zero => omega
  | succ d ih =>
    rcases h.ref i hi h3 with h1 | ⟨h1, h2⟩
    · exact ⟨i, hi, h1⟩
    · exact ih h1 h2 (by omega)
/-- Closing, at the first hop. -/
def end0 (c : Ch) : Bool := c.st 0 == 4 || c.st 0 == 5
theorem end0_put {c : Ch} {j : Nat} (s : Int) (hj : 0 < j) : end0 (c.put j s) = end0 c := by
  have : (c.put j s).st 0 = c.st 0 := by
    unfold Ch.st Ch.put
    simp only [List.getD_eq_getElem?_getD]
    rw [List.getElem?_set_ne (by omega)]
  unfold end0; rw [this]
theorem end0_put0 {c : Ch} (s : Int) (hn : 0 < c.n) : end0 (c.put 0 s) = (s == 4 || s == 5) := by
  unfold end0; rw [put_same c s hn]
theorem end0_recv {c : Ch} {fly : List Msg} {m : Msg} (h : Inv c fly) (hm : MsgOk c m) : end0 (recvP c m).1 = end0 c := by
  obtain ⟨i, hi, hm⟩ := hm
  have turn : ∀ a b k, (a = 4 ↔ b = 5) → (a = 1 ∨ a = 4) → (b = 2 ∨ b = 3 ∨ b = 5) → end0 (turnP c i a b k).1 = end0 c := fun a b k hab ha hb => by
    unfold turnP
    split
    · rename_i e
      rcases Nat.eq_zero_or_pos i with h0 | h0
      · subst h0
        show end0 (c.put 0 b) = end0 c
        rw [end0_put0 b (by omega)]
        unfold end0
        rw [e, Bool.eq_iff_iff]
        simp
        omega
      · exact end0_put _ h0
    · rfl
  rcases hm with ⟨rfl, h2⟩ | ⟨rfl, h2⟩ | ⟨rfl, h2⟩ | ⟨rfl, h2⟩ | ⟨rfl, h2⟩
  · rw [recv_open hi]
    show end0 (openP c (i + 1)).1 = end0 c
    unfold openP
    repeat' split
    all_goals first | rfl | exact end0_put _ (by omega)
  · rw [recv_close hi]
    show end0 (closeP c (i + 1)).1 = end0 c
    unfold closeP
    repeat' split
    all_goals first | rfl | exact end0_put _ (by omega)
  · rw [recv_back hi (.inl rfl)]
    simp only [ruleP, show ¬ (2 : Int) = 1 by omega, if_false, if_true, Int.toNat_natCast]
    exact turn 1 2 2 (by omega) (by omega) (by omega)
  · rw [recv_back hi (.inr (.inl rfl))]
    simp only [ruleP, show ¬ (3 : Int) = 1 by omega, show ¬ (3 : Int) = 2 by omega, if_false, if_true, Int.toNat_natCast]
    exact turn 1 3 3 (by omega) (by omega) (by omega)
  · rw [recv_back hi (.inr (.inr rfl))]
    simp only [ruleP, show ¬ (5 : Int) = 1 by omega, show ¬ (5 : Int) = 2 by omega, show ¬ (5 : Int) = 3 by omega, show ¬ (5 : Int) = 4 by omega, if_false, if_true, Int.toNat_natCast]
    exact turn 4 5 5 (by omega) (by omega) (by omega)
theorem end0_answer {c : Ch} {fly l : List Msg} (h : Inv c fly) (hl : ∀ m ∈ l, m ∈ fly) : end0 (answer c l) = end0 c := by
  induction l generalizing c with
  | nil => rfl
  | cons m l ih =>
    have hm := h.msg m (hl m (by simp))
    exact (ih ((inv_recv h hm).sub fun x hx => List.mem_append.2 (.inl hx)) fun x hx => hl x (by simp [hx])).trans (end0_recv h hm)
theorem end0_deliver {c : Ch} {fly : List Msg} {m : Msg} (h : Inv c fly) (hm : m ∈ fly) : end0 (deliver c m) = end0 c :=
  (end0_answer (inv_recv h (h.msg m hm)) fun x hx => List.mem_append.2 (.inr hx)).trans (end0_recv h (h.msg m hm))
theorem end0_all {c : Ch} {fly l : List Msg} (h : Inv c fly) (hl : ∀ m ∈ l, m ∈ fly) : end0 (deliverAll c l) = end0 c := by
  induction l generalizing c with
  | nil => rfl
  | cons m l ih => exact (ih (inv_deliver h (hl m (by simp))) fun x hx => hl x (by simp [hx])).trans (end0_deliver h (hl m (by simp)))
theorem end0_rounds {c : Ch} (h : Inv c []) (k : Nat) : end0 (roundsP c k) = end0 c := by
  induction k with
  | zero => rfl
  | succ k ih => exact (end0_all (fly := repP (roundsP c k)) (by have := (inv_rounds h k).add (inv_rep (inv_rounds h k)); simpa using this) fun m hm => hm).trans ih
def stops (c : Ch) (kind : Int) : Bool := kind == 4 && (c.st 0 == 1 || c.st 0 == 2)
theorem end0_step {c : Ch} {fly : List Msg} (h : Inv c fly) (kind : Int) (i : Nat) (hi : 0 < fly.length → i < fly.length) : end0 (stepAt c fly kind i).1 = (stops c kind || end0 c) := by
  have hn := h.ok.n1
  unfold stepAt
  by_cases k0 : kind = 0
  · subst k0
    rw [if_pos rfl]
    show end0 (startP c).1 = _
    have hs : stops c 0 = false := rfl
    rw [hs, Bool.false_or]
    unfold startP
    split
    · rename_i e
      show end0 (openP c 0).1 = _
      have e0 : end0 c = false := by unfold end0; rw [e]; rfl
      rw [e0]
      unfold openP
      rw [if_pos e]
      repeat' split
      all_goals exact end0_put0 _ (by omega)
    · rfl
  rw [if_neg k0]
  by_cases k123 : kind = 1 ∨ kind = 2 ∨ kind = 3
  · have hs : stops c kind = false := by unfold stops; simp; omega
    rw [if_pos k123, hs, Bool.false_or]
    split
    · rfl
    · rename_i hne
      split
      · rfl
      · have hi2 := hi (List.length_pos_iff.2 hne)
        refine end0_recv h (h.msg _ ?_)
        rw [List.getD_eq_getElem?_getD, List.getElem?_eq_getElem hi2]; exact List.getElem_mem hi2
  rw [if_neg k123]
  by_cases k4 : kind = 4
  · subst k4
    rw [if_pos rfl]
    show end0 (stopP c).1 = _
    unfold stopP
    by_cases hs : c.st 0 = 1 ∨ c.st 0 = 2
    · rw [if_pos hs]
      show end0 (closeP c 0).1 = _
      have e0 : stops c 4 = true := by unfold stops; simp; exact hs
      rw [e0, Bool.true_or]
      unfold closeP
      rw [if_pos hs]
      split
      all_goals exact end0_put0 _ (by omega)
    · rw [if_neg hs]
      have e0 : stops c 4 = false := by unfold stops; simp; omega
      rw [e0]; rfl
  have hs : stops c kind = false := by unfold stops; simp; omega
  rw [if_neg k4, hs, Bool.false_or]
  split <;> rfl
end Go.Proofs.Ytnmgnggchgckoaa
