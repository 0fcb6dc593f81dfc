/- Better (the program's and the reference's), and what a node hears over one cable (the closure of round). -/
import Derived.Test.YtckigonkcjceeaaGNode
import Derived.Test.YtckigonkcjceeaaEPlain
namespace Go.Proofs.Ytckigonkcjceeaa
set_option linter.unusedVariables false
set_option linter.unusedSimpArgs false
open Go.RowKit
theorem onlyP3 {w w1 : World} (h : Below w.heap.size w w1) (b : Nat) (x y z : Value) : OnlyP (· = b) w (((w1.setCell ⟨b, 0, none⟩ x).setCell ⟨b, 1, none⟩ y).setCell ⟨b, 2, none⟩ z) :=
  (((OnlyP.of_below h (· = b)).set (p := ⟨b, 0, none⟩) (.inl rfl) x).set (p := ⟨b, 1, none⟩) (.inl rfl) y).set (p := ⟨b, 2, none⟩) (.inl rfl) z
def va (v : Vt) : Array Value := #[.int .i64 v.root, .int .i64 v.dist, .int .i64 v.port]
set_option maxHeartbeats 1000000 in
theorem better_c (a b : Vt) (w : World) :
    Calls Try.prog 12 #[.agg #[.int .i64 a.root, .int .i64 a.dist, .int .i64 a.port], .agg #[.int .i64 b.root, .int .i64 b.dist, .int .i64 b.port]] w fun e w' => e = .returned (.bool (betterB a b)) ∧ Below w.heap.size w w' := by
  by_cases h1 : a.root = b.root
  · have q1 : (a.root == b.root) = true := by simpa using h1
    have q1' : (a.root != b.root) = false := by simpa using h1
    by_cases h2 : a.dist = b.dist
    · have q2 : (a.dist == b.dist) = true := by simpa using h2
      have q2' : (a.dist != b.dist) = false := by simpa using h2
      have HB : Kept (betterB a b = decide (a.port < b.port)) := ⟨by unfold betterB; rw [if_pos h1, if_pos h2]⟩
      clear h1 h2
      go_enter Try.func12, Try.ntmps12
      go_wp2_with fail
      go_ret
      exact ⟨ret_bool HB.out.symm, by go_grown⟩
    · have q2 : (a.dist == b.dist) = false := by simpa using h2
      have q2' : (a.dist != b.dist) = true := by simpa using h2
      have HB : Kept (betterB a b = decide (a.dist < b.dist)) := ⟨by unfold betterB; rw [if_pos h1, if_neg h2]⟩
      clear h1 h2
      go_enter Try.func12, Try.ntmps12
      go_wp2_with fail
      go_ret
      exact ⟨ret_bool HB.out.symm, by go_grown⟩
  · have q1 : (a.root == b.root) = false := by simpa using h1
    have q1' : (a.root != b.root) = true := by simpa using h1
    have HB : Kept (betterB a b = decide (a.root < b.root)) := ⟨by unfold betterB; rw [if_neg h1]⟩
    clear h1
    go_enter Try.func12, Try.ntmps12
    go_wp2_with fail
    go_ret
    exact ⟨ret_bool HB.out.symm, by go_grown⟩
set_option maxHeartbeats 1000000 in
theorem refBetter_c (a b : Vt) (w : World) :
    Calls Try.prog 13 #[.agg #[.int .i64 a.root, .int .i64 a.dist, .int .i64 a.port], .agg #[.int .i64 b.root, .int .i64 b.dist, .int .i64 b.port]] w fun e w' => e = .returned (.bool (betterB a b)) ∧ Below w.heap.size w w' := by
  by_cases h1 : a.root = b.root
  · have q1 : (a.root == b.root) = true := by simpa using h1
    have q1' : (a.root != b.root) = false := by simpa using h1
    by_cases h2 : a.dist = b.dist
    · have q2 : (a.dist == b.dist) = true := by simpa using h2
      have q2' : (a.dist != b.dist) = false := by simpa using h2
      have HB : Kept (betterB a b = decide (a.port < b.port)) := ⟨by unfold betterB; rw [if_pos h1, if_pos h2]⟩
      clear h1 h2
      go_enter Try.func13, Try.ntmps13
      go_wp2_with fail
      go_ret
      exact ⟨ret_bool HB.out.symm, by go_grown⟩
    · have q2 : (a.dist == b.dist) = false := by simpa using h2
      have q2' : (a.dist != b.dist) = true := by simpa using h2
      have HB : Kept (betterB a b = decide (a.dist < b.dist)) := ⟨by unfold betterB; rw [if_pos h1, if_neg h2]⟩
      clear h1 h2
      go_enter Try.func13, Try.ntmps13
      go_wp2_with fail
      go_ret
      exact ⟨ret_bool HB.out.symm, by go_grown⟩
  · have q1 : (a.root == b.root) = false := by simpa using h1
    have q1' : (a.root != b.root) = true := by simpa using h1
    have HB : Kept (betterB a b = decide (a.root < b.root)) := ⟨by unfold betterB; rw [if_neg h1]⟩
    clear h1
    go_enter Try.func13, Try.ntmps13
    go_wp2_with fail
    go_ret
    exact ⟨ret_bool HB.out.symm, by go_grown⟩
set_option maxRecDepth 100000 in
set_option maxHeartbeats 4000000 in
theorem hear_c (N : List Nd) (nc : Nat) (An Ac Av : Option Addr) (kn kc kv : Nat) (votes : List Vt) (best : Vt) (port : Int) (o : Nat) (w : World) (B bV bP bB : Nat)
    (hV : Blk w bV 37 #[.slice Av votes.length kv]) (hP : Blk w bP 32 #[.slice An N.length kn, .slice Ac nc kc]) (hB : Blk w bB 23 (va best)) (hr : RowsAt w B 3 vcell Av votes)
    (ho : o < votes.length) (hn : N.length ≤ 16) (hd : DistOk N.length votes) :
    Calls Try.prog 50 #[.int .i64 port, .int .i64 (o : Int), .pointer (some ⟨bV, 0, none⟩), .pointer (some ⟨bP, 0, none⟩), .pointer (some ⟨bB, 0, none⟩)] w fun e w' => e = .returned (.tuple #[]) ∧ Blk w' bB 23 (va (heardV N.length (voteAt votes (o : Int)) port best)) ∧ OnlyP (· = bB) w w' := by
  obtain ⟨v, b, off, hv, rfl, -, hb, hc⟩ := hr.at_ ho
  have e0 := hc 0 (.int .i64 v.root) rfl
  have e1 := hc 1 (.int .i64 v.dist) rfl
  have e2 := hc 2 (.int .i64 v.port) rfl
  simp only [Nat.add_zero] at e0
  have hdv := hd v (List.mem_of_getElem? hv)
  have HVA : Kept (voteAt votes (o : Int) = v) := ⟨by unfold voteAt; rw [show ((o : Nat) : Int).toNat = o by omega, List.getD_eq_getElem?_getD, hv]; rfl⟩
  have v0 := hV.cell 0 (v := .slice (some ⟨b, off, none⟩) votes.length kv) rfl
  have p0 := hP.cell 0 (v := .slice An N.length kn) rfl
  have p1 := hP.cell 1 (v := .slice Ac nc kc) rfl
  have b0 := hB.cell 0 (v := .int .i64 best.root) rfl
  have b1 := hB.cell 1 (v := .int .i64 best.dist) rfl
  have b2 := hB.cell 2 (v := .int .i64 best.port) rfl
  have f0 := hB.free 0
  have f1 := hB.free 1
  have f2 := hB.free 2
  have l1 := hV.lt
  have l2 := hP.lt
  have l3 := hB.lt
  have d1 := hdv.1
  have d2 : v.dist + 1 ≤ 16 := by omega
  have HB := Kept.mk hB
  clear hv hc hd hr hV hP hB hdv
  by_cases hlt : v.dist + 1 < (N.length : Int)
  · cases hb : betterB ⟨v.root, v.dist + 1, port⟩ best with
    | true =>
      have HBT := Kept.mk hb
      have HH : Kept (heardV N.length (voteAt votes (o : Int)) port best = ⟨v.root, v.dist + 1, port⟩) := ⟨by rw [HVA.out]; unfold heardV; rw [if_pos hlt, if_pos hb]⟩
      have q := decide_eq_true hlt
      clear hb
      go_enter Try.func50, Try.ntmps50
      go_wp2_with (go_at_call 12; refine (better_c ⟨v.root, v.dist + 1, port⟩ best _).mono ?_; rintro e w1 ⟨rfl, hb1⟩; rw [HBT.out]; obtain ⟨g1, g2⟩ := bcell hb1; have z1 := hb1.size; have HB1 := Kept.mk ((HB.out.alloc _).new_ hb1); have HD1 := Kept.mk (join (w := w) (by go_grown) hb1); have HX := Kept.mk ((Blk.new w 23 (va ⟨v.root, v.dist + 1, port⟩)).new_ hb1); have x0 := HX.out.cell 0 (v := .int .i64 v.root) rfl; have x1 := HX.out.cell 1 (v := .int .i64 (v.dist + 1)) rfl; have x2 := HX.out.cell 2 (v := .int .i64 port) rfl; have f0 := HB1.out.free 0; have f1 := HB1.out.free 1; have f2 := HB1.out.free 2; have b0 := HB1.out.cell 0 (v := .int .i64 best.root) rfl; have b1 := HB1.out.cell 1 (v := .int .i64 best.dist) rfl; have b2 := HB1.out.cell 2 (v := .int .i64 best.port) rfl; clear hb1 g1 g2)
      go_end0
      exact ⟨rfl, by rw [HH.out]; exact ((HB1.out.set_ 0 _).set_ 1 _).to 2 _ rfl, onlyP3 HD1.out bB _ _ _⟩
    | false =>
      have HBT := Kept.mk hb
      have HH : Kept (heardV N.length (voteAt votes (o : Int)) port best = best) := ⟨by rw [HVA.out]; unfold heardV; rw [if_pos hlt, if_neg (by rw [hb]; decide)]⟩
      have q := decide_eq_true hlt
      clear hb
      go_enter Try.func50, Try.ntmps50
      go_wp2_with (go_at_call 12; refine (better_c ⟨v.root, v.dist + 1, port⟩ best _).mono ?_; rintro e w1 ⟨rfl, hb1⟩; rw [HBT.out]; have HB1 := Kept.mk ((HB.out.alloc _).new_ hb1); have HD1 := Kept.mk (join (w := w) (by go_grown) hb1); clear hb1)
      go_end0
      exact ⟨rfl, by rw [HH.out]; exact HB1.out, OnlyP.of_below HD1.out _⟩
  · have HH : Kept (heardV N.length (voteAt votes (o : Int)) port best = best) := ⟨by rw [HVA.out]; unfold heardV; rw [if_neg hlt]⟩
    have q := decide_eq_false hlt
    go_enter Try.func50, Try.ntmps50
    go_wp2_with fail
    go_end0
    exact ⟨rfl, by rw [HH.out]; exact HB.out.alloc _, (OnlyP.refl _ _).alloc _⟩
theorem hear_i (N : List Nd) (nc : Nat) (An Ac Av : Option Addr) (kn kc kv : Nat) (votes : List Vt) (best : Vt) (port o : Int) (w : World) (B bV bP bB : Nat)
    (hV : Blk w bV 37 #[.slice Av votes.length kv]) (hP : Blk w bP 32 #[.slice An N.length kn, .slice Ac nc kc]) (hB : Blk w bB 23 (va best)) (hr : RowsAt w B 3 vcell Av votes)
    (ho : 0 ≤ o ∧ o < votes.length) (hn : N.length ≤ 16) (hd : DistOk N.length votes) :
    Calls Try.prog 50 #[.int .i64 port, .int .i64 o, .pointer (some ⟨bV, 0, none⟩), .pointer (some ⟨bP, 0, none⟩), .pointer (some ⟨bB, 0, none⟩)] w fun e w' => e = .returned (.tuple #[]) ∧ Blk w' bB 23 (va (heardV N.length (voteAt votes o) port best)) ∧ OnlyP (· = bB) w w' := by
  have := hear_c N nc An Ac Av kn kc kv votes best port o.toNat w B bV bP bB hV hP hB hr (by omega) hn hd
  rwa [show (o.toNat : Int) = o by omega] at this
theorem below_only {B b : Nat} {w w1 w2 : World} (h : Below B w w1) (ho : OnlyP (· = b) w1 w2) (hB : B ≤ b) (hw : B ≤ w.heap.size) : Below B w w2 := joinP h ho (fun k hk => by subst hk; exact hB) hw
end Go.Proofs.Ytckigonkcjceeaa
