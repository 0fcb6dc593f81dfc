/- Setup: what always holds of a chain and the messages in flight, whatever is lost, doubled or delayed. Plain data. -/
import Derived.Test.YtnmgnggchgckoaaStep
namespace Go.Proofs.Ytnmgnggchgckoaa
set_option linter.unusedVariables false
set_option linter.unusedSimpArgs false
/-- Neighbors' states. -/
def P0 (a b : Int) : Prop := (a = 0 ∧ b = 0) ∨ (a = 1 ∧ 0 ≤ b ∧ b ≤ 3) ∨ (a = 2 ∧ b = 2) ∨ (a = 3 ∧ (b = 0 ∨ b = 3)) ∨ (a = 4 ∧ 0 ≤ b ∧ b ≤ 5) ∨ (a = 5 ∧ (b = 0 ∨ b = 3 ∨ b = 5))
/-- .. while a message of a kind is in flight between them. -/
def A1 (a b : Int) : Prop := (a = 1 ∧ 0 ≤ b ∧ b ≤ 3) ∨ (a = 2 ∧ b = 2) ∨ (a = 3 ∧ b = 3) ∨ (a = 4 ∧ 0 ≤ b ∧ b ≤ 5) ∨ (a = 5 ∧ (b = 3 ∨ b = 5))
def A2 (a b : Int) : Prop := (a = 1 ∧ b = 2) ∨ (a = 2 ∧ b = 2) ∨ (a = 4 ∧ (b = 2 ∨ b = 4 ∨ b = 5)) ∨ (a = 5 ∧ b = 5)
def A3 (a b : Int) : Prop := b = 3 ∧ (a = 1 ∨ a = 3 ∨ a = 4 ∨ a = 5)
def A4 (a b : Int) : Prop := (a = 4 ∧ 0 ≤ b ∧ b ≤ 5) ∨ (a = 5 ∧ (b = 3 ∨ b = 5))
def A5 (a b : Int) : Prop := (a = 4 ∨ a = 5) ∧ (b = 3 ∨ b = 5)
def MsgOk (c : Ch) (m : Msg) : Prop := ∃ i : Nat, i + 1 < c.n ∧ (
  (m = ⟨1, c.conn, (i : Int) + 1⟩ ∧ A1 (c.st i) (c.st (i + 1))) ∨ (m = ⟨4, c.conn, (i : Int) + 1⟩ ∧ A4 (c.st i) (c.st (i + 1))) ∨
  (m = ⟨2, c.conn, i⟩ ∧ A2 (c.st i) (c.st (i + 1))) ∨ (m = ⟨3, c.conn, i⟩ ∧ A3 (c.st i) (c.st (i + 1))) ∨ (m = ⟨5, c.conn, i⟩ ∧ A5 (c.st i) (c.st (i + 1))))
structure Inv (c : Ch) (fly : List Msg) : Prop where
  ok : Ok c
  res : ∀ i, i < c.n → (c.st i = 1 ∨ c.st i = 2 ∨ c.st i = 4) → c.need ≤ c.room i
  ref : ∀ i, i < c.n → c.st i = 3 → c.room i < c.need ∨ (i + 1 < c.n ∧ c.st (i + 1) = 3)
  pair : ∀ i, i + 1 < c.n → P0 (c.st i) (c.st (i + 1))
  last : c.st (c.n - 1) ≠ 1 ∧ c.st (c.n - 1) ≠ 4
  msg : ∀ m ∈ fly, MsgOk c m
theorem Inv.sub {c : Ch} {fly fly' : List Msg} (h : Inv c fly) (hs : ∀ m ∈ fly', m ∈ fly) : Inv c fly' := ⟨h.ok, h.res, h.ref, h.pair, h.last, fun m hm => h.msg m (hs m hm)⟩
theorem Inv.add {c : Ch} {fly ms : List Msg} (h : Inv c fly) (hs : ∀ m ∈ ms, MsgOk c m) : Inv c (fly ++ ms) :=
  ⟨h.ok, h.res, h.ref, h.pair, h.last, fun m hm => by rcases List.mem_append.1 hm with hm | hm; exact h.msg m hm; exact hs m hm⟩
/-- A pair of neighbors in which the second turns from b to b'. -/
structure TurnR (a b b' : Int) : Prop where
  p : P0 a b → P0 a b'
  a1 : A1 a b → A1 a b'
  a2 : A2 a b → A2 a b'
  a3 : A3 a b → A3 a b'
  a4 : A4 a b → A4 a b'
  a5 : A5 a b → A5 a b'
structure TurnL (a a' b : Int) : Prop where
  p : P0 a b → P0 a' b
  a1 : A1 a b → A1 a' b
  a2 : A2 a b → A2 a' b
  a3 : A3 a b → A3 a' b
  a4 : A4 a b → A4 a' b
  a5 : A5 a b → A5 a' b
theorem Inv.put {c : Ch} {fly : List Msg} (h : Inv c fly) {j : Nat} (hj : j < c.n) {s : Int} (s0 : 0 ≤ s) (s5 : s ≤ 5) (h3 : c.st j ≠ 3)
    (hL : ∀ i, i + 1 = j → TurnR (c.st i) (c.st j) s) (hR : j + 1 < c.n → TurnL (c.st j) s (c.st (j + 1)))
    (hres : (s = 1 ∨ s = 2 ∨ s = 4) → c.need ≤ c.room j) (href : s = 3 → c.room j < c.need ∨ (j + 1 < c.n ∧ c.st (j + 1) = 3)) (hlast : j + 1 = c.n → s ≠ 1 ∧ s ≠ 4) : Inv (c.put j s) fly := by
  have hs := fun k => put_st c s k hj
  have hn := put_n c j s
  refine ⟨h.ok.put hj s0 s5, fun i hi hh => ?_, fun i hi hh => ?_, fun i hi => ?_, ?_, fun m hm => ?_⟩
  · rw [hn] at hi
    rw [hs] at hh
    by_cases e : i = j
    · subst e; rw [if_pos rfl] at hh; exact hres hh
    · rw [if_neg e] at hh; exact h.res i hi hh
  · rw [hn] at hi ⊢
    rw [hs] at hh ⊢
    by_cases e : i = j
    · subst e
      rw [if_pos rfl] at hh
      rw [if_neg (by omega)]
      exact href hh
    · rw [if_neg e] at hh
      rcases h.ref i hi hh with h1 | ⟨h1, h2⟩
      · exact .inl h1
      · right
        refine ⟨h1, ?_⟩
        by_cases e2 : i + 1 = j
        · subst e2; exact absurd h2 h3
        · rw [if_neg e2]; exact h2
  · rw [hn] at hi
    have hp := h.pair i hi
    rw [hs, hs]
    by_cases e : i = j
    · subst e; rw [if_pos rfl, if_neg (by omega)]; exact (hR hi).p hp
    · by_cases e2 : i + 1 = j
      · rw [if_neg e, if_pos e2]; subst e2; exact (hL i rfl).p hp
      · rw [if_neg e, if_neg e2]; exact hp
  · rw [hn, hs]
    by_cases e : c.n - 1 = j
    · rw [if_pos e]; exact hlast (by have := h.ok.n1; omega)
    · rw [if_neg e]; exact h.last
  · obtain ⟨i, hi, hm⟩ := h.msg m hm
    refine ⟨i, by rw [hn]; exact hi, ?_⟩
    rw [hs, hs]
    show (_ ∧ _) ∨ _
    by_cases e : i = j
    · subst e
      rw [if_pos rfl, if_neg (by omega)]
      have ht := hR hi
      rcases hm with ⟨h1, h2⟩ | ⟨h1, h2⟩ | ⟨h1, h2⟩ | ⟨h1, h2⟩ | ⟨h1, h2⟩
      · exact .inl ⟨h1, ht.a1 h2⟩
      · exact .inr (.inl ⟨h1, ht.a4 h2⟩)
      · exact .inr (.inr (.inl ⟨h1, ht.a2 h2⟩))
      · exact .inr (.inr (.inr (.inl ⟨h1, ht.a3 h2⟩)))
      · exact .inr (.inr (.inr (.inr ⟨h1, ht.a5 h2⟩)))
    · by_cases e2 : i + 1 = j
      · rw [if_neg e, if_pos e2]
        have ht := hL i e2
        subst e2
        rcases hm with ⟨h1, h2⟩ | ⟨h1, h2⟩ | ⟨h1, h2⟩ | ⟨h1, h2⟩ | ⟨h1, h2⟩
        · exact .inl ⟨h1, ht.a1 h2⟩
        · exact .inr (.inl ⟨h1, ht.a4 h2⟩)
        · exact .inr (.inr (.inl ⟨h1, ht.a2 h2⟩))
        · exact .inr (.inr (.inr (.inl ⟨h1, ht.a3 h2⟩)))
        · exact .inr (.inr (.inr (.inr ⟨h1, ht.a5 h2⟩)))
      · rw [if_neg e, if_neg e2]; exact hm
/-- A message that is sent, if it is. -/
theorem send_fwd {c c' : Ch} {j : Nat} {k : Int} (hn : c'.n = c.n) (hc : c'.conn = c.conn) (h : j + 1 < c.n → MsgOk c' ⟨k, c.conn, (j : Int) + 1⟩) : ∀ m ∈ sendP c k ((j : Int) + 1), MsgOk c' m := by
  intro m hm
  unfold sendP at hm
  split at hm
  · rename_i hb
    simp at hm
    subst hm
    exact h (by have := (hasB_iff.1 hb).2; omega)
  · simp at hm
theorem send_back {c c' : Ch} {j : Nat} {k : Int} (h : ∀ i, i + 1 = j → MsgOk c' ⟨k, c.conn, (i : Int)⟩) : ∀ m ∈ sendP c k ((j : Int) - 1), MsgOk c' m := by
  intro m hm
  unfold sendP at hm
  split at hm
  · rename_i hb
    simp at hm
    subst hm
    have := (hasB_iff.1 hb).1
    have := h (j - 1) (by omega)
    rwa [show ((j - 1 : Nat) : Int) = (j : Int) - 1 by omega] at this
  · simp at hm
theorem put_conn (c : Ch) (j : Nat) (s : Int) : (c.put j s).conn = c.conn := rfl
theorem put_same (c : Ch) {j : Nat} (s : Int) (hj : j < c.n) : (c.put j s).st j = s := by rw [put_st c s j hj, if_pos rfl]
theorem put_next (c : Ch) {j : Nat} (s : Int) (hj : j < c.n) : (c.put j s).st (j + 1) = c.st (j + 1) := by rw [put_st c s _ hj, if_neg (by omega)]
theorem put_prev (c : Ch) {j i : Nat} (s : Int) (hj : j < c.n) (hi : i + 1 = j) : (c.put j s).st i = c.st i := by rw [put_st c s _ hj, if_neg (by omega)]
/-- What a hop that has turned sends to the hop before. -/
theorem back_ok {c : Ch} {j : Nat} {s k : Int} (hj : j < c.n) (h : ∀ i, i + 1 = j → (k = 2 ∧ A2 (c.st i) s) ∨ (k = 3 ∧ A3 (c.st i) s) ∨ (k = 5 ∧ A5 (c.st i) s)) : ∀ m ∈ sendP c k ((j : Int) - 1), MsgOk (c.put j s) m :=
  send_back fun i hi => ⟨i, by rw [put_n]; omega, by
    have h1 := put_prev c s hj hi
    have h2 := put_same c s hj
    rw [h1, show i + 1 = j from hi, h2, put_conn]
    rcases h i hi with ⟨rfl, ha⟩ | ⟨rfl, ha⟩ | ⟨rfl, ha⟩
    · exact .inr (.inr (.inl ⟨rfl, ha⟩))
    · exact .inr (.inr (.inr (.inl ⟨rfl, ha⟩)))
    · exact .inr (.inr (.inr (.inr ⟨rfl, ha⟩)))⟩
/-- .. a hop that has not turned. -/
theorem back_ok' {c : Ch} {j : Nat} {k : Int} (hj : j < c.n) (h : ∀ i, i + 1 = j → (k = 2 ∧ A2 (c.st i) (c.st j)) ∨ (k = 3 ∧ A3 (c.st i) (c.st j)) ∨ (k = 5 ∧ A5 (c.st i) (c.st j))) : ∀ m ∈ sendP c k ((j : Int) - 1), MsgOk c m :=
  send_back fun i hi => ⟨i, by omega, by
    rw [show i + 1 = j from hi]
    rcases h i hi with ⟨rfl, ha⟩ | ⟨rfl, ha⟩ | ⟨rfl, ha⟩
    · exact .inr (.inr (.inl ⟨rfl, ha⟩))
    · exact .inr (.inr (.inr (.inl ⟨rfl, ha⟩)))
    · exact .inr (.inr (.inr (.inr ⟨rfl, ha⟩)))⟩
theorem fwd_ok {c : Ch} {j : Nat} {s k : Int} (hj : j < c.n) (h : j + 1 < c.n → (k = 1 ∧ A1 s (c.st (j + 1))) ∨ (k = 4 ∧ A4 s (c.st (j + 1)))) : ∀ m ∈ sendP c k ((j : Int) + 1), MsgOk (c.put j s) m :=
  send_fwd (put_n c j s) rfl fun hh => ⟨j, by rw [put_n]; exact hh, by
    rw [put_same c s hj, put_next c s hj, put_conn]
    rcases h hh with ⟨rfl, ha⟩ | ⟨rfl, ha⟩
    · exact .inl ⟨rfl, ha⟩
    · exact .inr (.inl ⟨rfl, ha⟩)⟩
theorem fwd_ok' {c : Ch} {j : Nat} {k : Int} (hj : j < c.n) (h : j + 1 < c.n → (k = 1 ∧ A1 (c.st j) (c.st (j + 1))) ∨ (k = 4 ∧ A4 (c.st j) (c.st (j + 1)))) : ∀ m ∈ sendP c k ((j : Int) + 1), MsgOk c m :=
  send_fwd rfl rfl fun hh => ⟨j, hh, by
    rcases h hh with ⟨rfl, ha⟩ | ⟨rfl, ha⟩
    · exact .inl ⟨rfl, ha⟩
    · exact .inr (.inl ⟨rfl, ha⟩)⟩
theorem inv_open {c : Ch} {fly : List Msg} {j : Nat} (h : Inv c fly) (hj : j < c.n) (ht : ∀ i, i + 1 = j → A1 (c.st i) (c.st j)) : Inv (openP c j).1 (fly ++ (openP c j).2) := by
  have hp : j + 1 < c.n → P0 (c.st j) (c.st (j + 1)) := h.pair j
  have hl := h.last
  unfold openP
  by_cases h0 : c.st j = 0
  · rw [if_pos h0]
    rw [h0] at ht hp
    have hR : ∀ i, i + 1 = j → ∀ s, (s = 1 ∨ s = 2 ∨ s = 3) → TurnR (c.st i) (c.st j) s := fun i hi s hs => by
      have := ht i hi
      rw [h0]
      refine ⟨?_, ?_, ?_, ?_, ?_, ?_⟩ <;> (intro hh; (try unfold P0 at *); (try unfold A1 at *); (try unfold A2 at *); (try unfold A3 at *); (try unfold A4 at *); (try unfold A5 at *); omega)
    have hL : ∀ s, (s = 1 ∨ s = 3) → j + 1 < c.n → TurnL (c.st j) s (c.st (j + 1)) := fun s hs hn => by
      have := hp hn
      rw [h0]
      refine ⟨?_, ?_, ?_, ?_, ?_, ?_⟩ <;> (intro hh; (try unfold P0 at *); (try unfold A1 at *); (try unfold A2 at *); (try unfold A3 at *); (try unfold A4 at *); (try unfold A5 at *); omega)
    by_cases hf : c.room j < c.need
    · rw [if_pos hf]
      refine (h.put hj (s := 3) (by omega) (by omega) (by omega) (fun i hi => hR i hi 3 (by omega)) (hL 3 (by omega)) (fun hh => by omega) (fun _ => .inl hf) (fun _ => by omega)).add (back_ok hj fun i hi => ?_)
      have := ht i hi
      right; left; refine ⟨rfl, ?_⟩
      unfold A1 at this; unfold A3; omega
    · rw [if_neg hf]
      by_cases hn : j + 1 = c.n
      · rw [if_pos hn]
        refine (h.put hj (s := 2) (by omega) (by omega) (by omega) (fun i hi => hR i hi 2 (by omega)) (fun hh => by omega) (fun _ => by omega) (fun hh => by omega) (fun _ => by omega)).add (back_ok hj fun i hi => ?_)
        have := ht i hi
        left; refine ⟨rfl, ?_⟩
        unfold A1 at this; unfold A2; omega
      · rw [if_neg hn]
        refine (h.put hj (s := 1) (by omega) (by omega) (by omega) (fun i hi => hR i hi 1 (by omega)) (hL 1 (by omega)) (fun _ => by omega) (fun hh => by omega) (fun hh => absurd hh hn)).add (fwd_ok hj fun hh => ?_)
        have := hp hh
        left; refine ⟨rfl, ?_⟩
        unfold P0 at this; unfold A1; omega
  · rw [if_neg h0]
    by_cases h2 : c.st j = 2
    · rw [if_pos h2]
      refine h.add (back_ok' hj fun i hi => ?_)
      have := ht i hi
      rw [h2] at this ⊢
      left; refine ⟨rfl, ?_⟩
      unfold A1 at this; unfold A2; omega
    · rw [if_neg h2]
      by_cases h3 : c.st j = 3
      · rw [if_pos h3]
        refine h.add (back_ok' hj fun i hi => ?_)
        have := ht i hi
        rw [h3] at this ⊢
        right; left; refine ⟨rfl, ?_⟩
        unfold A1 at this; unfold A3; omega
      · rw [if_neg h3]
        by_cases h5 : c.st j = 5
        · rw [if_pos h5]
          refine h.add (back_ok' hj fun i hi => ?_)
          have := ht i hi
          rw [h5] at this ⊢
          right; right; refine ⟨rfl, ?_⟩
          unfold A1 at this; unfold A5; omega
        · rw [if_neg h5]
          exact h.add (by simp)
theorem inv_close {c : Ch} {fly : List Msg} {j : Nat} (h : Inv c fly) (hj : j < c.n) (ht : ∀ i, i + 1 = j → A4 (c.st i) (c.st j)) (h00 : j = 0 → c.st 0 = 1 ∨ c.st 0 = 2) : Inv (closeP c j).1 (fly ++ (closeP c j).2) := by
  have hp : j + 1 < c.n → P0 (c.st j) (c.st (j + 1)) := h.pair j
  have hq : ∀ i, i + 1 = j → P0 (c.st i) (c.st j) := fun i hi => by have := h.pair i (by omega); rwa [hi] at this
  unfold closeP
  by_cases h12 : c.st j = 1 ∨ c.st j = 2
  · rw [if_pos h12]
    have hR : ∀ i, i + 1 = j → ∀ s, (s = 4 ∨ s = 5) → TurnR (c.st i) (c.st j) s := fun i hi s hs => by
      have := ht i hi
      have := hq i hi
      refine ⟨?_, ?_, ?_, ?_, ?_, ?_⟩ <;> (intro hh; (try unfold P0 at *); (try unfold A1 at *); (try unfold A2 at *); (try unfold A3 at *); (try unfold A4 at *); (try unfold A5 at *); omega)
    by_cases hn : j + 1 = c.n
    · rw [if_pos hn]
      refine (h.put hj (s := 5) (by omega) (by omega) (by omega) (fun i hi => hR i hi 5 (by omega)) (fun hh => by omega) (fun hh => by omega) (fun hh => by omega) (fun _ => by omega)).add (back_ok hj fun i hi => ?_)
      have := ht i hi
      right; right; refine ⟨rfl, ?_⟩
      unfold A4 at this; unfold A5; omega
    · rw [if_neg hn]
      have hL : j + 1 < c.n → TurnL (c.st j) 4 (c.st (j + 1)) := fun hn => by
        have := hp hn
        refine ⟨?_, ?_, ?_, ?_, ?_, ?_⟩ <;> (intro hh; (try unfold P0 at *); (try unfold A1 at *); (try unfold A2 at *); (try unfold A3 at *); (try unfold A4 at *); (try unfold A5 at *); omega)
      refine (h.put hj (s := 4) (by omega) (by omega) (by omega) (fun i hi => hR i hi 4 (by omega)) hL (fun _ => h.res j hj (by omega)) (fun hh => by omega) (fun hh => absurd hh hn)).add (fwd_ok hj fun hh => ?_)
      have := hp hh
      right; refine ⟨rfl, ?_⟩
      unfold P0 at this; unfold A4; omega
  · rw [if_neg h12]
    have hj0 : 0 < j := by
      rcases Nat.eq_zero_or_pos j with e | e
      · subst e; exact absurd (h00 rfl) h12
      · exact e
    by_cases h0 : c.st j = 0
    · rw [if_pos h0]
      rw [h0] at ht hp
      have hL : j + 1 < c.n → TurnL (c.st j) 5 (c.st (j + 1)) := fun hn => by
        have := hp hn
        rw [h0]
        refine ⟨?_, ?_, ?_, ?_, ?_, ?_⟩ <;> (intro hh; (try unfold P0 at *); (try unfold A1 at *); (try unfold A2 at *); (try unfold A3 at *); (try unfold A4 at *); (try unfold A5 at *); omega)
      refine (h.put hj (s := 5) (by omega) (by omega) (by omega) (fun i hi => ?_) hL (fun hh => by omega) (fun hh => by omega) (fun _ => by omega)).add (back_ok hj fun i hi => ?_)
      · have := ht i hi
        rw [h0]
        refine ⟨?_, ?_, ?_, ?_, ?_, ?_⟩ <;> (intro hh; (try unfold P0 at *); (try unfold A1 at *); (try unfold A2 at *); (try unfold A3 at *); (try unfold A4 at *); (try unfold A5 at *); omega)
      · have := ht i hi
        right; right; refine ⟨rfl, ?_⟩
        unfold A4 at this; unfold A5; omega
    · rw [if_neg h0]
      by_cases h4 : c.st j = 4
      · rw [if_pos h4]; exact h.add (by simp)
      · rw [if_neg h4]
        refine h.add (back_ok' hj fun i hi => ?_)
        have := ht i hi
        have hs := h.ok.st j hj
        right; right; refine ⟨rfl, ?_⟩
        unfold A4 at this; unfold A5; omega
theorem inv_accept {c : Ch} {fly : List Msg} {j : Nat} (h : Inv c fly) (hj : j + 1 < c.n) (ht : A2 (c.st j) (c.st (j + 1))) : Inv (turnP c j 1 2 2).1 (fly ++ (turnP c j 1 2 2).2) := by
  have hq : ∀ i, i + 1 = j → P0 (c.st i) (c.st j) := fun i hi => by have := h.pair i (by omega); rwa [hi] at this
  unfold turnP
  by_cases h1 : c.st j = 1
  · rw [if_pos h1]
    rw [h1] at ht hq
    refine (h.put (by omega) (s := 2) (by omega) (by omega) (by omega) (fun i hi => ?_) (fun hn => ?_) (fun _ => h.res j (by omega) (by omega)) (fun hh => by omega) (fun hh => by omega)).add (back_ok (by omega) fun i hi => ?_)
    · have := hq i hi
      rw [h1]
      refine ⟨?_, ?_, ?_, ?_, ?_, ?_⟩ <;> (intro hh; (try unfold P0 at *); (try unfold A1 at *); (try unfold A2 at *); (try unfold A3 at *); (try unfold A4 at *); (try unfold A5 at *); omega)
    · rw [h1]
      refine ⟨?_, ?_, ?_, ?_, ?_, ?_⟩ <;> (intro hh; (try unfold P0 at *); (try unfold A1 at *); (try unfold A2 at *); (try unfold A3 at *); (try unfold A4 at *); (try unfold A5 at *); omega)
    · have := hq i hi
      left; refine ⟨rfl, ?_⟩
      unfold P0 at this; unfold A2; omega
  · rw [if_neg h1]; exact h.add (by simp)
theorem inv_refuse {c : Ch} {fly : List Msg} {j : Nat} (h : Inv c fly) (hj : j + 1 < c.n) (ht : A3 (c.st j) (c.st (j + 1))) : Inv (turnP c j 1 3 3).1 (fly ++ (turnP c j 1 3 3).2) := by
  have hq : ∀ i, i + 1 = j → P0 (c.st i) (c.st j) := fun i hi => by have := h.pair i (by omega); rwa [hi] at this
  unfold turnP
  by_cases h1 : c.st j = 1
  · rw [if_pos h1]
    rw [h1] at ht hq
    refine (h.put (by omega) (s := 3) (by omega) (by omega) (by omega) (fun i hi => ?_) (fun hn => ?_) (fun hh => by omega) (fun hh => .inr ⟨hj, by unfold A3 at ht; omega⟩) (fun hh => by omega)).add (back_ok (by omega) fun i hi => ?_)
    · have := hq i hi
      rw [h1]
      refine ⟨?_, ?_, ?_, ?_, ?_, ?_⟩ <;> (intro hh; (try unfold P0 at *); (try unfold A1 at *); (try unfold A2 at *); (try unfold A3 at *); (try unfold A4 at *); (try unfold A5 at *); omega)
    · rw [h1]
      refine ⟨?_, ?_, ?_, ?_, ?_, ?_⟩ <;> (intro hh; (try unfold P0 at *); (try unfold A1 at *); (try unfold A2 at *); (try unfold A3 at *); (try unfold A4 at *); (try unfold A5 at *); omega)
    · have := hq i hi
      right; left; refine ⟨rfl, ?_⟩
      unfold P0 at this; unfold A3; omega
  · rw [if_neg h1]; exact h.add (by simp)
theorem inv_closed {c : Ch} {fly : List Msg} {j : Nat} (h : Inv c fly) (hj : j + 1 < c.n) (ht : A5 (c.st j) (c.st (j + 1))) : Inv (turnP c j 4 5 5).1 (fly ++ (turnP c j 4 5 5).2) := by
  have hq : ∀ i, i + 1 = j → P0 (c.st i) (c.st j) := fun i hi => by have := h.pair i (by omega); rwa [hi] at this
  unfold turnP
  by_cases h1 : c.st j = 4
  · rw [if_pos h1]
    rw [h1] at ht hq
    refine (h.put (by omega) (s := 5) (by omega) (by omega) (by omega) (fun i hi => ?_) (fun hn => ?_) (fun hh => by omega) (fun hh => by omega) (fun hh => by omega)).add (back_ok (by omega) fun i hi => ?_)
    · have := hq i hi
      rw [h1]
      refine ⟨?_, ?_, ?_, ?_, ?_, ?_⟩ <;> (intro hh; (try unfold P0 at *); (try unfold A1 at *); (try unfold A2 at *); (try unfold A3 at *); (try unfold A4 at *); (try unfold A5 at *); omega)
    · rw [h1]
      refine ⟨?_, ?_, ?_, ?_, ?_, ?_⟩ <;> (intro hh; (try unfold P0 at *); (try unfold A1 at *); (try unfold A2 at *); (try unfold A3 at *); (try unfold A4 at *); (try unfold A5 at *); omega)
    · have := hq i hi
      right; right; refine ⟨rfl, ?_⟩
      unfold P0 at this; unfold A5; omega
  · rw [if_neg h1]; exact h.add (by simp)
theorem inv_recv {c : Ch} {fly : List Msg} {m : Msg} (h : Inv c fly) (hm : MsgOk c m) : Inv (recvP c m).1 (fly ++ (recvP c m).2.1) := by
  unfold recvP
  split
  · exact h.add (by simp)
  split
  · exact h.add (by simp)
  split
  · obtain ⟨i, hi, hm⟩ := hm
    have e1 : ((i : Int) + 1).toNat = i + 1 := by omega
    rcases hm with ⟨rfl, h2⟩ | ⟨rfl, h2⟩ | ⟨rfl, h2⟩ | ⟨rfl, h2⟩ | ⟨rfl, h2⟩
    · simp only [ruleP, if_pos, e1]
      exact inv_open h hi (fun k hk => by obtain rfl : k = i := by omega
                                          exact h2)
    · simp only [ruleP, show ¬ (4 : Int) = 1 by omega, show ¬ (4 : Int) = 2 by omega, show ¬ (4 : Int) = 3 by omega, if_neg, if_pos, not_false_eq_true, e1]
      exact inv_close h hi (fun k hk => by obtain rfl : k = i := by omega
                                           exact h2) (fun hh => by omega)
    · simp only [ruleP, show ¬ (2 : Int) = 1 by omega, if_neg, if_pos, not_false_eq_true, Int.toNat_natCast]
      exact inv_accept h hi h2
    · simp only [ruleP, show ¬ (3 : Int) = 1 by omega, show ¬ (3 : Int) = 2 by omega, if_neg, if_pos, not_false_eq_true, Int.toNat_natCast]
      exact inv_refuse h hi h2
    · simp only [ruleP, show ¬ (5 : Int) = 1 by omega, show ¬ (5 : Int) = 2 by omega, show ¬ (5 : Int) = 3 by omega, show ¬ (5 : Int) = 4 by omega, if_neg, not_false_eq_true, Int.toNat_natCast]
      exact inv_closed h hi h2
  · exact h.add (by simp)
theorem inv_start {c : Ch} {fly : List Msg} (h : Inv c fly) : Inv (startP c).1 (fly ++ (startP c).2.1) := by
  unfold startP
  split
  · exact inv_open h (by have := h.ok.n1; omega) (fun i hi => by omega)
  · exact h.add (by simp)
theorem inv_stop {c : Ch} {fly : List Msg} (h : Inv c fly) : Inv (stopP c).1 (fly ++ (stopP c).2.1) := by
  unfold stopP
  split
  · rename_i hs; exact inv_close h (by have := h.ok.n1; omega) (fun i hi => by omega) (fun _ => hs)
  · exact h.add (by simp)
theorem mem_repN {c : Ch} {m : Msg} {k : Nat} (h : m ∈ repN c k) : ∃ i, i < k ∧ m ∈ repI c i := by
  induction k with
  | zero => simp [repN] at h
  | succ k ih =>
    rcases List.mem_append.1 h with h | h
    · obtain ⟨i, hi, hm⟩ := ih h; exact ⟨i, by omega, hm⟩
    · exact ⟨k, by omega, h⟩
theorem repN_mem {c : Ch} {m : Msg} {k i : Nat} (hi : i < k) (h : m ∈ repI c i) : m ∈ repN c k := by
  induction k with
  | zero => omega
  | succ k ih =>
    refine List.mem_append.2 ?_
    rcases Nat.lt_or_ge i k with h1 | h1
    · exact .inl (ih h1)
    · obtain rfl : i = k := by omega
      exact .inr h
theorem inv_rep {c : Ch} {fly : List Msg} (h : Inv c fly) : ∀ m ∈ repP c, MsgOk c m := by
  intro m hm
  obtain ⟨i, hi, hm⟩ := mem_repN hm
  unfold repI at hm
  split at hm
  · rename_i h1
    refine fwd_ok' hi (fun hn => ?_) m hm
    have := h.pair i hn
    left; refine ⟨rfl, ?_⟩
    unfold P0 at this; unfold A1; omega
  · split at hm
    · rename_i h1 h4
      refine fwd_ok' hi (fun hn => ?_) m hm
      have := h.pair i hn
      right; refine ⟨rfl, ?_⟩
      unfold P0 at this; unfold A4; omega
    · simp at hm
theorem inv_zero {l : List Int} {need : Int} (h : fitsB 5 l need = true) : Inv (start0 5 l need) [] := by
  have hst : ∀ i, (start0 5 l need).st i = 0 := fun i => by simp only [start0, Ch.st, List.getD_eq_getElem?_getD, List.getElem?_replicate]; split <;> rfl
  refine ⟨start0_ok h, fun i hi hh => by rw [hst] at hh; omega, fun i hi hh => by rw [hst] at hh; omega, fun i hi => by rw [hst, hst]; exact .inl ⟨rfl, rfl⟩, by rw [hst]; omega, by simp⟩
theorem inv_step {c : Ch} {fly : List Msg} (h : Inv c fly) (kind : Int) (i : Nat) (hi : 0 < fly.length → i < fly.length) : Inv (stepAt c fly kind i).1 (stepAt c fly kind i).2 := by
  have hsub : ∀ (l ms : List Msg), (∀ m ∈ l, m ∈ fly) → ∀ m ∈ l.take 120 ++ ms, m ∈ fly ++ ms := fun l ms hl m hm => by
    rcases List.mem_append.1 hm with hm | hm
    · exact List.mem_append.2 (.inl (hl m (List.mem_of_mem_take hm)))
    · exact List.mem_append.2 (.inr hm)
  unfold stepAt
  split
  · exact (inv_start h).sub (hsub _ _ fun m hm => hm)
  split
  · split
    · exact h.sub (by simp)
    · rename_i hne
      split
      · exact h.sub fun m hm => List.mem_of_mem_eraseIdx (List.mem_of_mem_take hm)
      · have hi2 := hi (List.length_pos_iff.2 hne)
        have hm : fly.getD i ⟨0, 0, 0⟩ ∈ fly := by
          rw [List.getD_eq_getElem?_getD, List.getElem?_eq_getElem hi2]; exact List.getElem_mem hi2
        refine (inv_recv h (h.msg _ hm)).sub (hsub _ _ fun m hm => ?_)
        split at hm
        · exact hm
        · exact List.mem_of_mem_eraseIdx hm
  split
  · exact (inv_stop h).sub (hsub _ _ fun m hm => hm)
  split
  · exact (h.add (inv_rep h)).sub (hsub _ _ fun m hm => hm)
  · exact h.sub fun m hm => List.mem_of_mem_take hm
end Go.Proofs.Ytnmgnggchgckoaa
