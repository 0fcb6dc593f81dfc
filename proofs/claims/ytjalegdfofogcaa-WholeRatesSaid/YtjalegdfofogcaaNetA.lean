/- Nets: what the program's Valid asks, and how a net lies in memory. -/
import Derived.Test.YtjalegdfofogcaaRatQ
import Derived.Test.YtjalegdfofogcaaRowBlk
namespace Go.Proofs.Ytjalegdfofogcaa
set_option linter.unusedVariables false
set_option linter.unusedSimpArgs false
open Go.RowKit
def icell (x : Int) : List Value := [.int .i64 x]
def boolc (b : Bool) : List Value := [.bool b]
def ccell (r : Rq) : List Value := [.int .i64 r.n, .int .i64 r.d]
/-- A flow, and where its links lie. -/
structure PFlow where
  ls : List Int
  A : Option Addr
  kap : Nat
  b : Bool
  d : Rq
def fcell (p : PFlow) : List Value := [.slice p.A p.ls.length p.kap, .bool p.b, .int .i64 p.d.n, .int .i64 p.d.d]
theorem icell_len (x : Int) : (icell x).length = 1 := rfl
theorem boolc_len (x : Bool) : (boolc x).length = 1 := rfl
theorem ccell_len (x : Rq) : (ccell x).length = 2 := rfl
theorem fcell_len (x : PFlow) : (fcell x).length = 4 := rfl
instance : Inhabited Rq := ⟨⟨0, 0⟩⟩
instance : Inhabited PFlow := ⟨⟨[], none, 0, false, ⟨0, 0⟩⟩⟩
/-- A net, and where it lies. -/
structure PNet where
  caps : List Rq
  cA : Option Addr
  ck : Nat
  flows : List PFlow
  fA : Option Addr
  fk : Nat
def nval (n : PNet) : Value := .agg #[.slice n.cA n.caps.length n.ck, .slice n.fA n.flows.length n.fk]
/-- A flow's links lie in memory, and its numbers are ints. -/
structure FlowAt (w : World) (B : Nat) (p : PFlow) : Prop where
  rd : RowsAt w B 1 icell p.A p.ls
  le : p.ls.length ≤ p.kap
  mx : p.kap ≤ maxLen
  r64 : R64 p.d.n ∧ R64 p.d.d
structure NetAt (w : World) (B : Nat) (n : PNet) : Prop where
  cap : RowsAt w B 2 ccell n.cA n.caps
  flo : RowsAt w B 4 fcell n.fA n.flows
  fl : ∀ p ∈ n.flows, FlowAt w B p
  c64 : ∀ c ∈ n.caps, R64 c.n ∧ R64 c.d
  cle : n.caps.length ≤ n.ck ∧ n.ck ≤ maxLen
  fle : n.flows.length ≤ n.fk ∧ n.fk ≤ maxLen
section
variable {w w' : World} {B : Nat} {n : PNet} {p : PFlow}
theorem FlowAt.new_ (h : FlowAt w w.heap.size p) (hb : Below w.heap.size w w') : FlowAt w' w'.heap.size p := ⟨h.rd.new_ hb, h.le, h.mx, h.r64⟩
theorem NetAt.new_ (h : NetAt w w.heap.size n) (hb : Below w.heap.size w w') : NetAt w' w'.heap.size n := ⟨h.cap.new_ hb, h.flo.new_ hb, fun p hp => (h.fl p hp).new_ hb, h.c64, h.cle, h.fle⟩
theorem NetAt.keep {B' : Nat} (h : NetAt w B n) (hk : ∀ p : Addr, p.block < B → w'.cell? p = w.cell? p) : NetAt w' B n := ⟨h.cap.keep hk, h.flo.keep hk, fun p hp => ⟨(h.fl p hp).rd.keep hk, (h.fl p hp).le, (h.fl p hp).mx, (h.fl p hp).r64⟩, h.c64, h.cle, h.fle⟩
theorem NetAt.more {B' : Nat} (h : NetAt w B n) (hB : B ≤ B') : NetAt w B' n := ⟨h.cap.more hB, h.flo.more hB, fun p hp => ⟨(h.fl p hp).rd.more hB, (h.fl p hp).le, (h.fl p hp).mx, (h.fl p hp).r64⟩, h.c64, h.cle, h.fle⟩
theorem NetAt.capAt (h : NetAt w B n) {k : Nat} (hk : k < n.caps.length) : ∃ x b off, n.caps[k]? = some x ∧ n.cA = some ⟨b, off, none⟩ ∧ b < B ∧ b < w.heap.size ∧
    w.cell? ⟨b, off + k * 2, none⟩ = some (.int .i64 x.n) ∧ w.cell? ⟨b, off + k * 2 + 1, none⟩ = some (.int .i64 x.d) ∧ (R64 x.n ∧ R64 x.d) := by
  obtain ⟨x, b, off, hx, e, h1, h2, hc⟩ := h.cap.at_ hk
  exact ⟨x, b, off, hx, e, h1, h2, hc 0 _ rfl, hc 1 _ rfl, h.c64 x (List.mem_of_getElem? hx)⟩
theorem NetAt.flowAt (h : NetAt w B n) {k : Nat} (hk : k < n.flows.length) : ∃ x b off, n.flows[k]? = some x ∧ n.fA = some ⟨b, off, none⟩ ∧ b < B ∧ b < w.heap.size ∧
    (w.cell? ⟨b, off + k * 4, none⟩ = some (.slice x.A x.ls.length x.kap) ∧ w.cell? ⟨b, off + k * 4 + 1, none⟩ = some (.bool x.b) ∧ w.cell? ⟨b, off + k * 4 + 2, none⟩ = some (.int .i64 x.d.n) ∧ w.cell? ⟨b, off + k * 4 + 3, none⟩ = some (.int .i64 x.d.d)) ∧ FlowAt w B x := by
  obtain ⟨x, b, off, hx, e, h1, h2, hc⟩ := h.flo.at_ hk
  exact ⟨x, b, off, hx, e, h1, h2, ⟨hc 0 _ rfl, hc 1 _ rfl, hc 2 _ rfl, hc 3 _ rfl⟩, h.fl x (List.mem_of_getElem? hx)⟩
theorem FlowAt.link (h : FlowAt w B p) {k : Nat} (hk : k < p.ls.length) : ∃ x b off, p.ls[k]? = some x ∧ p.A = some ⟨b, off, none⟩ ∧ b < B ∧ b < w.heap.size ∧ w.cell? ⟨b, off + k, none⟩ = some (.int .i64 x) := by
  obtain ⟨x, b, off, hx, e, h1, h2, hc⟩ := h.rd.at_ hk
  exact ⟨x, b, off, hx, e, h1, h2, by have := hc 0 _ rfl; simpa using this⟩
end
theorem all_next {α : Type} {p : α → Bool} {l : List α} {k : Nat} {x : α} (h : (l.take k).all p = true) (hx : l[k]? = some x) (hp : p x = true) : (l.take (k + 1)).all p = true := by
  rw [take_next hx, List.all_append, h]; simp [hp]
theorem all_bad {α : Type} {p : α → Bool} {l : List α} {k : Nat} {x : α} (hx : l[k]? = some x) (hp : p x = false) : l.all p = false := by
  rw [List.all_eq_false]
  exact ⟨x, List.mem_of_getElem? hx, by simp [hp]⟩
def capOk (c : Rq) : Bool := okQ c && (decide (0 ≤ c.n) && decide (cmpQ c ⟨1000, 1⟩ ≤ 0))
def linkOk (nl : Nat) (pre : List Int) (l : Int) : Bool := decide (0 ≤ l) && (decide (l < nl) && !pre.contains l)
def linksOk (nl : Nat) (ls : List Int) : Bool := (List.range ls.length).all fun i => linkOk nl (ls.take i) (ls.getD i 0)
def flowOk (nl : Nat) (f : PFlow) : Bool := decide (0 < f.ls.length) && (linksOk nl f.ls && (okQ f.d && (decide (0 ≤ f.d.n) && (f.b || f.d.n == 0))))
def netOk (n : PNet) : Bool := decide (n.caps.length ≤ 32) && (decide (n.flows.length ≤ 32) && (n.caps.all capOk && n.flows.all (flowOk n.caps.length)))
set_option maxHeartbeats 1000000 in
theorem index_c (l : List Int) (A : Option Addr) (kap : Nat) (x : Int) (w : World) (h : RowsAt w w.heap.size 1 icell A l) (hm : l.length ≤ 9223372036854775807) :
    Calls Try.prog 39 #[.slice A l.length kap, .int .i64 x] w fun e w' => ∃ r : Int, e = .returned (.int .i64 r) ∧ decide (0 ≤ r) = l.contains x ∧ w = w' := by
  have HR := Kept.mk h
  clear h
  go_enter Try.func39, Try.ntmps39
  go_wp2_with fail
  go_loopw [8] (fun v wr => ∃ k : Nat, k ≤ l.length ∧ v = .int .i64 k ∧ Kept ((l.take k).contains x = false) ∧ wr = w) (fun v _ => l.length - (intOf v).toNat)
  case atStart => exact ⟨0, Nat.zero_le _, rfl, ⟨by simp⟩, rfl⟩
  case round =>
    obtain ⟨k, hk, rfl, HC, rfl⟩ := hrel
    by_cases hlt : k < l.length
    · obtain ⟨y, b, off, hy, rfl, -, hb, hc⟩ := HR.out.at_ hlt
      have c0 := hc 0 (.int .i64 y) rfl
      simp only [Nat.add_zero, Nat.mul_one] at c0
      have HY := Kept.mk hy
      clear hc hy
      by_cases he : x = y
      · have HF : Kept (l.contains x = true) := ⟨by rw [List.contains_iff_mem, he]; exact List.mem_of_getElem? HY.out⟩
        subst he
        go_wp2_with fail
        go_ret
        exact ⟨_, rfl, by rw [HF.out]; exact decide_eq_true (by omega), rfl⟩
      · have hne : (x == y) = false := beq_false_of_ne he
        have HC2 : Kept ((l.take (k + 1)).contains x = false) := ⟨by
          rw [take_next HY.out, List.contains_eq_any_beq, List.any_append, ← List.contains_eq_any_beq, HC.out]
          simp [he]⟩
        go_wp2_with fail
        go_roundw
        case rel => exact ⟨k + 1, by omega, by go_num, HC2, by trivial⟩
        case measure => simp [intOf]; omega
    · obtain rfl : k = l.length := by omega
      have HF : Kept (l.contains x = false) := ⟨by have := HC.out; rwa [List.take_length] at this⟩
      clear hlt HC
      go_wp2_with fail
      go_ret
      exact ⟨_, rfl, by rw [HF.out]; rfl, rfl⟩
theorem contains_c (l : List Int) (A : Option Addr) (kap : Nat) (x : Int) (w : World) (h : RowsAt w w.heap.size 1 icell A l) (hm : l.length ≤ 9223372036854775807) :
    Calls Try.prog 11 #[.slice A l.length kap, .int .i64 x] w fun e w' => e = .returned (.bool (l.contains x)) ∧ w = w' := by
  have HR := Kept.mk h
  clear h
  have HI := fun w h => index_c l A kap x w h hm
  go_enter Try.func11, Try.ntmps11
  go_wp2_with (go_at_call 39; refine (HI _ HR.out).mono ?_; rintro e w1 ⟨r, rfl, hr, rfl⟩; have HC := Kept.mk hr; clear hr)
  go_ret
  exact ⟨ret_bool HC.out, rfl⟩
end Go.Proofs.Ytjalegdfofogcaa
