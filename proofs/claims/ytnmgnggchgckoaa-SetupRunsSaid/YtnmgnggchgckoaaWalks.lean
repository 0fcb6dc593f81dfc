/- Setup: the walks of the chain's inner methods: has, last, send, turn, close, open. -/
import Derived.Test.YtnmgnggchgckoaaProg
import Derived.Test.YtnmgnggchgckoaaPlain
import Derived.Outline
namespace Go.Proofs.Ytnmgnggchgckoaa
set_option linter.unusedVariables false
set_option linter.unusedSimpArgs false
open Go.RowKit
def Sends (w : World) (ms : List Msg) (e : Ending) (w' : World) : Prop :=
  ∃ v, e = .returned v ∧ w'.ownsRow w.heap.size 38 3 v ms.length (mcells ms) ∧ Below w.heap.size w w'
def Turns (w : World) (L : Loc) (c : Ch) (ms : List Msg) (e : Ending) (w' : World) : Prop :=
  ∃ v, e = .returned v ∧ w'.ownsRow w.heap.size 38 3 v ms.length (mcells ms) ∧ IsCh w' L c ∧ OnlyP (fun x => x = L.S) w w'
theorem has_c (c : Ch) (k : Int) (w : World) (L : Loc) (h : IsCh w L c) :
    Calls Try.prog 32 #[.pointer (some ⟨L.p, 0, none⟩), .int .i64 k] w fun e w' => e = .returned (.bool (c.hasB k)) ∧ w = w' := by
  have c3 := h.tab.cell 3 (v := .slice (some ⟨L.S, 0, none⟩) c.n c.n) rfl
  have hlt := h.tab.lt
  have hn := h.ok.n2
  clear h
  go_enter Try.func32, Try.ntmps32
  go_wp2_with fail
  all_goals go_ret
  all_goals exact ⟨ret_bool (by simp [Ch.hasB]; try omega), rfl⟩
theorem last_c (c : Ch) (i : Nat) (w : World) (L : Loc) (h : IsCh w L c) (hi : i < c.n) :
    Calls Try.prog 46 #[.pointer (some ⟨L.p, 0, none⟩), .int .i64 i] w fun e w' => e = .returned (.bool (decide (i + 1 = c.n))) ∧ w = w' := by
  have c3 := h.tab.cell 3 (v := .slice (some ⟨L.S, 0, none⟩) c.n c.n) rfl
  have hlt := h.tab.lt
  have hn := h.ok.n2
  clear h
  go_enter Try.func46, Try.ntmps46
  go_wp2_with fail
  all_goals go_ret
  all_goals exact ⟨ret_bool (by rw [Bool.eq_iff_iff]; simp; omega), rfl⟩
theorem send_c (c : Ch) (k d : Int) (w : World) (L : Loc) (h : IsCh w L c) :
    Calls Try.prog 33 #[.pointer (some ⟨L.p, 0, none⟩), .int .i64 k, .int .i64 d] w (Sends w (sendP c k d)) := by
  have c0 := h.tab.cell 0 (v := .int .i64 c.conn) rfl
  have hlt := h.tab.lt
  have H := Kept.mk h
  clear h
  cases hb : c.hasB d with
  | false =>
    have HS : Kept (sendP c k d = []) := ⟨by simp [sendP, hb]⟩
    have HB := Kept.mk hb
    clear hb
    go_enter Try.func33, Try.ntmps33
    go_wp2_with fail
    refine (has_c c d _ L H.out).mono ?_
    rintro e w' ⟨rfl, rfl⟩
    rw [HB.out]
    go_wp2_with fail
    go_ret
    rw [HS.out]
    exact ⟨_, rfl, World.ownsRow_nil _ _ _ _, Below.refl _ _⟩
  | true =>
    have HS : Kept (sendP c k d = [⟨k, c.conn, d⟩]) := ⟨by simp [sendP, hb]⟩
    have HB := Kept.mk hb
    clear hb
    go_enter Try.func33, Try.ntmps33
    go_wp2_with fail
    refine (has_c c d _ L H.out).mono ?_
    rintro e w' ⟨rfl, rfl⟩
    rw [HB.out]
    go_wp2_with fail
    go_ret
    rw [HS.out]
    exact ⟨_, rfl, World.ownsRow_lit w #[.int .i64 k, .int .i64 c.conn, .int .i64 d] 1 (Nat.le_refl _) (by unfold maxLen; omega) rfl, (Below.refl _ _).alloc (Nat.le_refl _) _⟩
theorem bool_int (a b : Int) : ((a == b) = true ∧ (a != b) = false) ∨ ((a == b) = false ∧ (a != b) = true) := by
  by_cases h : a = b <;> simp [h]
theorem setSize (w : World) (p : Addr) (u : Value) : (w.setCell p u).heap.size = w.heap.size := by simp [World.setCell]
theorem setS {S o : Nat} {w w1 : World} {u : Value} (h : OnlyP (fun x => x = S) w w1) : OnlyP (fun x => x = S) w (w1.setCell ⟨S, o, none⟩ u) := h.set (p := ⟨S, o, none⟩) (.inl rfl) u
/-- What is left behind a store and a message sent. -/
theorem turns_mk {w w1 w2 : World} {L : Loc} {c : Ch} {ms : List Msg} {e : Ending} (h : IsCh w1 L c) (ho : OnlyP (fun x => x = L.S) w w1) (hs : Sends w1 ms e w2) : Turns w L c ms e w2 := by
  obtain ⟨v, he, ho2, hb⟩ := hs
  exact ⟨v, he, ownsRow_base ho2 ho.size, h.new_ hb, ho.new hb⟩
theorem turns_none {w w1 : World} {L : Loc} {c : Ch} (h : IsCh w1 L c) (ho : OnlyP (fun x => x = L.S) w w1) : Turns w L c [] (.returned (.slice none 0 0)) w1 :=
  ⟨_, rfl, World.ownsRow_nil _ _ _ _, h, ho⟩
set_option maxHeartbeats 1000000 in
theorem turn_c (c : Ch) (i : Nat) (a b k : Int) (w : World) (L : Loc) (h : IsCh w L c) (hi : i < c.n) (b0 : 0 ≤ b) (b5 : b ≤ 5) :
    Calls Try.prog 35 #[.pointer (some ⟨L.p, 0, none⟩), .int .i64 i, .int .i64 a, .int .i64 b, .int .i64 k] w (Turns w L (turnP c i a b k).1 (turnP c i a b k).2) := by
  have c3 := h.tab.cell 3 (v := .slice (some ⟨L.S, 0, none⟩) c.n c.n) rfl
  have cs := h.state hi
  have fs := h.row.free i
  have hlt := h.tab.lt
  have hls := h.row.lt
  have hn := h.ok.n2
  have H := Kept.mk h
  have HP := Kept.mk (h.put hi b0 b5)
  clear h
  rcases bool_int (c.st i) a with ⟨h1, h2⟩ | ⟨h1, h2⟩
  · have HT : Kept (turnP c i a b k = (c.put i b, sendP c k ((i : Int) - 1))) := ⟨by unfold turnP; rw [if_pos (by simpa using h1)]⟩
    rw [HT.out]
    generalize c.st i = s at *
    go_enter Try.func35, Try.ntmps35
    go_wp2_with fail
    refine (send_c (c.put i b) k ((i : Int) - 1) _ L HP.out).mono ?_
    rw [put_sendP]
    rintro e w' hs
    obtain ⟨v, rfl, ho, hb⟩ := hs
    go_wp2_with fail
    go_ret
    exact turns_mk HP.out (setS (OnlyP.refl _ _)) ⟨v, rfl, ho, hb⟩
  · have HT : Kept (turnP c i a b k = (c, [])) := ⟨by unfold turnP; rw [if_neg (by simpa using h1)]⟩
    rw [HT.out]
    generalize c.st i = s at *
    go_enter Try.func35, Try.ntmps35
    go_wp2_with fail
    go_ret
    exact turns_none H.out (OnlyP.refl _ _)
theorem closure_open (c : Ch) (i : Nat) (k : Int) (w : World) (L : Loc) (P Q : Nat) (h : IsCh w L c) (hp : w.cell? ⟨P, 0, none⟩ = some (.pointer (some ⟨L.p, 0, none⟩))) (hq : w.cell? ⟨Q, 0, none⟩ = some (.int .i64 i)) (hi : i < c.n) :
    Calls Try.prog 45 #[.int .i64 k, .pointer (some ⟨P, 0, none⟩), .pointer (some ⟨Q, 0, none⟩)] w (Sends w (sendP c k ((i : Int) - 1))) := by
  have hn := h.ok.n2
  have H := Kept.mk h
  clear h
  go_enter Try.func45, Try.ntmps45
  go_wp2_with fail
  refine (send_c c k ((i : Int) - 1) _ L H.out).mono ?_
  rintro e w' ⟨v, rfl, ho, hb⟩
  go_wp2_with fail
  go_ret
  exact ⟨v, rfl, ho, hb⟩
end Go.Proofs.Ytnmgnggchgckoaa
