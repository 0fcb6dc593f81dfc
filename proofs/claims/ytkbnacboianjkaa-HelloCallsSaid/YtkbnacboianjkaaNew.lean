/- Hello: New, the methods of a nil table, and the example check of the statements. -/
import Derived.Test.YtkbnacboianjkaaTickC
namespace Go.Proofs.Ytkbnacboianjkaa
set_option linter.unusedVariables false
set_option linter.unusedSimpArgs false
open Go.RowKit
def pz : Value := .agg #[.int .i64 0, .int .i64 0, .int .i64 0, .int .i64 0, .int .i64 0, .int .i64 0]
theorem info66 : (Try.prog.info? 66).map (fun i => (i.zero, i.size, i.bytes)) = some (some pz, 6, 48) := by kernel_rfl
theorem made : ∀ n : Nat, n ≤ 8 → madeCells pz.cells (n * 6) = (flat (List.replicate n pt0)).toArray
  | 0, _ => by kernel_rfl
  | 1, _ => by kernel_rfl
  | 2, _ => by kernel_rfl
  | 3, _ => by kernel_rfl
  | 4, _ => by kernel_rfl
  | 5, _ => by kernel_rfl
  | 6, _ => by kernel_rfl
  | 7, _ => by kernel_rfl
  | 8, _ => by kernel_rfl
  | n + 9, h => absurd h (by omega)
theorem within_c (x a b : Int) (w : World) : Calls Try.prog 23 #[.int .i64 x, .int .i64 a, .int .i64 b] w fun e w' => e = .returned (.bool (inB x a b)) ∧ w = w' := by
  go_enter Try.func23, Try.ntmps23
  go_wp2
  all_goals go_ret
  all_goals exact ⟨ret_bool (by simp [inB]; try omega), rfl⟩
theorem run_mk (n : Nat) (hn : n ≤ 8) (w : World) : (Instr.makeSlice 62 (.int .i64 (n : Int)) (.int .i64 (n : Int))).run Try.prog w = .ok (.slice (some ⟨w.heap.size, 0, none⟩) n n) (w.alloc (.cells (flat (List.replicate n pt0)).toArray 66)) := by
  obtain ⟨i0, hi, hz0, hz1, hz2⟩ := info_parts info66
  have h := run_make (P := Try.prog) w 62 66 i0 pz Try.underlying62 hi hz0 .i64 .i64 n n (by omega) (by omega) (by rw [hz2]; omega) (by omega)
  rw [Int.toNat_natCast, hz1, made n hn] at h
  exact h
theorem inB_iff {x a b : Int} : inB x a b = true ↔ a ≤ x ∧ x ≤ b := by simp [inB]
theorem newB_iff {node inc ports every dead : Int} : newB node inc ports every dead = true ↔ (0 ≤ node ∧ node ≤ 15) ∧ (1 ≤ inc ∧ inc ≤ 1099511627775) ∧ (1 ≤ ports ∧ ports ≤ 8) ∧ (1 ≤ every ∧ every ≤ 1000) ∧ (1 ≤ dead ∧ dead ≤ 1000) := by
  simp only [newB, Bool.and_eq_true, inB_iff, and_assoc]
def News (w : World) (t : Tb) (e : Ending) (w' : World) : Prop :=
  e = .returned (.tuple #[.pointer (some ⟨w.heap.size + 1, 0, none⟩), .int .i64 0]) ∧ Table w' (w.heap.size + 1) w.heap.size t ∧ Below w.heap.size w w' ∧ w'.heap.size = w.heap.size + 2
set_option maxHeartbeats 1000000 in
theorem new_c (node inc : Int) (n : Nat) (every dead : Int) (w : World) (h : newB node inc n every dead = true) :
    Calls Try.prog 15 #[.int .i64 node, .int .i64 inc, .int .i64 (n : Int), .int .i64 every, .int .i64 dead] w (News w (new node inc n every dead)) := by
  obtain ⟨⟨a1, a2⟩, ⟨a3, a4⟩, ⟨a5, a6⟩, ⟨a7, a8⟩, a9, a10⟩ := newB_iff.1 h
  have hmk := fun W => run_mk n (by omega) W
  have b0 := inB_iff.2 ⟨a1, a2⟩
  have b1 := inB_iff.2 ⟨a3, a4⟩
  have b2 := inB_iff.2 ⟨a5, a6⟩
  have b3 := inB_iff.2 ⟨a7, a8⟩
  have b4 := inB_iff.2 ⟨a9, a10⟩
  clear h
  go_enter Try.func15, Try.ntmps15
  go_wp2_with (go_at_call 23; refine (within_c _ _ _ _).mono ?_; rintro e w1 ⟨rfl, rfl⟩)
  go_ret2
  have hb := Blk.new w 66 (flat (List.replicate n pt0)).toArray
  have ht := Blk.new (w.alloc (.cells (flat (List.replicate n pt0)).toArray 66)) 64 #[.int .i64 node, .int .i64 inc, .int .i64 every, .int .i64 dead, .int .i64 0, .int .i64 0, .slice (some ⟨w.heap.size, 0, none⟩) n n]
  rw [World.size_alloc] at ht
  refine ⟨rfl, ⟨?_, hb.alloc _, by simp [new]; omega, by simp [new]; omega⟩, by go_grown, by simp⟩
  simpa [tcells, new] using ht
set_option maxHeartbeats 1000000 in
theorem newNot_c (node inc ports every dead : Int) (w : World) (h : newB node inc ports every dead = false) :
    Calls Try.prog 15 #[.int .i64 node, .int .i64 inc, .int .i64 ports, .int .i64 every, .int .i64 dead] w fun e w' => e = .returned (.tuple #[.pointer none, .int .i64 2]) ∧ w = w' := by
  cases c0 : inB node 0 15 with
  | false =>
    clear h
    go_enter Try.func15, Try.ntmps15
    go_wp2_with (go_at_call 23; refine (within_c _ _ _ _).mono ?_; rintro e w1 ⟨rfl, rfl⟩)
    go_ret2
    exact ⟨rfl, rfl⟩
  | true =>
    cases c1 : inB inc 1 1099511627775 with
    | false =>
      clear h
      go_enter Try.func15, Try.ntmps15
      go_wp2_with (go_at_call 23; refine (within_c _ _ _ _).mono ?_; rintro e w1 ⟨rfl, rfl⟩)
      go_ret2
      exact ⟨rfl, rfl⟩
    | true =>
      cases c2 : inB ports 1 8 with
      | false =>
        clear h
        go_enter Try.func15, Try.ntmps15
        go_wp2_with (go_at_call 23; refine (within_c _ _ _ _).mono ?_; rintro e w1 ⟨rfl, rfl⟩)
        go_ret2
        exact ⟨rfl, rfl⟩
      | true =>
        cases c3 : inB every 1 1000 with
        | false =>
          clear h
          go_enter Try.func15, Try.ntmps15
          go_wp2_with (go_at_call 23; refine (within_c _ _ _ _).mono ?_; rintro e w1 ⟨rfl, rfl⟩)
          go_ret2
          exact ⟨rfl, rfl⟩
        | true =>
          cases c4 : inB dead 1 1000 with
          | false =>
            clear h
            go_enter Try.func15, Try.ntmps15
            go_wp2_with (go_at_call 23; refine (within_c _ _ _ _).mono ?_; rintro e w1 ⟨rfl, rfl⟩)
            go_ret2
            exact ⟨rfl, rfl⟩
          | true =>
            simp [newB, c0, c1, c2, c3, c4] at h
theorem tickNil_c (w : World) : Calls Try.prog 19 #[.pointer none] w fun e w' => e = .returned (.slice none 0 0) ∧ Below w.heap.size w w' := by
  go_enter Try.func19, Try.ntmps19
  go_wp2
  go_ret
  exact ⟨rfl, by go_grown⟩
theorem stateNil_c (port : Int) (w : World) : Calls Try.prog 14 #[.pointer none, .int .i64 port] w fun e w' => e = .returned (.int .i64 0) ∧ w = w' := by
  go_enter Try.func14, Try.ntmps14
  go_wp2
  go_ret
  exact ⟨rfl, rfl⟩
theorem nbNil_c (port : Int) (w : World) : Calls Try.prog 22 #[.pointer none, .int .i64 port] w fun e w' => e = .returned (.tuple #[.int .i64 0, .int .i64 0, .bool false]) ∧ w = w' := by
  go_enter Try.func22, Try.ntmps22
  go_wp2_with (go_at_call 14; refine (stateNil_c _ _).mono ?_; rintro e w1 ⟨rfl, rfl⟩)
  go_ret3
  exact ⟨rfl, rfl⟩
theorem versionNil_c (w : World) : Calls Try.prog 21 #[.pointer none] w fun e w' => e = .returned (.int .i64 0) ∧ w = w' := by
  go_enter Try.func21, Try.ntmps21
  go_wp2
  go_ret
  exact ⟨rfl, rfl⟩
def T0 : Tb := new 0 5 3 1 4
def M1 : Msg := ⟨1, 7, 2, 0⟩
def M2 : Msg := ⟨1, 7, 2, 5⟩
def M3 : Msg := ⟨1, 6, 2, 5⟩
set_option maxHeartbeats 1000000 in
theorem awake_c (w : World) : Calls Try.prog 11 #[] w fun e w' => e = .returned (.bool true) ∧ Below w.heap.size w w' := by
  go_enter Try.func11, Try.ntmps11
  go_wp2_with fail
  refine (new_c 0 5 3 1 4 _ (by decide)).mono ?_
  rintro e w1 ⟨rfl, hT, hb, -⟩
  have HB := hid hb
  have hl := hT.tab.lt
  have hl2 := hT.row.lt
  clear hb
  go_wp2_with fail
  refine (recv_c T0 0 M1 _ _ _ hT (by decide) (by decide)).mono ?_
  rintro e w2 ⟨rfl, hT2, hO⟩
  replace HB := hid (joinP (w := w) (B := w.heap.size) HB.out hO (by rintro k (h | h) <;> omega) (Nat.le_refl _))
  rw [show recvE T0 0 M1 = 0 by decide +kernel]
  clear hO hT
  go_wp2_with fail
  refine (state_c _ _ _ _ _ hT2).mono ?_
  rintro e w3 ⟨rfl, rfl⟩
  rw [show stateAt (recv T0 0 M1) 0 = 1 by decide +kernel]
  go_wp2_with fail
  refine (recv_c _ 0 M2 _ _ _ hT2 (by decide +kernel) (by decide +kernel)).mono ?_
  rintro e w3 ⟨rfl, hT3, hO⟩
  replace HB := hid (joinP (w := w) (B := w.heap.size) HB.out hO (by rintro k (h | h) <;> omega) (Nat.le_refl _))
  rw [show recvE (recv T0 0 M1) 0 M2 = 0 by decide +kernel]
  clear hO hT2
  go_wp2_with fail
  refine (nb_c _ _ _ _ _ hT3).mono ?_
  rintro e w4 ⟨rfl, n, rfl⟩
  rw [show nbNode (recv (recv T0 0 M1) 0 M2) 0 = 1 by decide +kernel, show nbPort (recv (recv T0 0 M1) 0 M2) 0 = 2 by decide +kernel, show nbOk (recv (recv T0 0 M1) 0 M2) 0 = true by decide +kernel]
  go_wp2_with fail
  refine (recv_c _ 0 M3 _ _ _ (hT3.drewN n) (by decide +kernel) (by decide +kernel)).mono ?_
  rintro e w5 ⟨rfl, hT5, hO⟩
  replace HB := hid (joinP (w := w) (B := w.heap.size) (dN HB.out n) hO (by rintro k (h | h) <;> omega) (Nat.le_refl _))
  rw [show recvE (recv (recv T0 0 M1) 0 M2) 0 M3 = 17 by decide +kernel]
  clear hO hT3
  go_wp2_with fail
  refine (state_c _ _ _ _ _ hT5).mono ?_
  rintro e w6 ⟨rfl, rfl⟩
  rw [show stateAt (recv (recv (recv T0 0 M1) 0 M2) 0 M3) 0 = 2 by decide +kernel]
  go_wp2_with fail
  go_ret
  exact ⟨rfl, HB.out⟩
end Go.Proofs.Ytkbnacboianjkaa
