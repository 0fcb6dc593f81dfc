/- Linecode: Value, over a world in which the table of symbols lies. -/
import Derived.Test.YtkpnggnanacaaaaDoorWalks
namespace Go.Proofs.YtkpnggnanacaaaaDoor
set_option linter.unusedVariables false
open Go.RowKit
section
variable {P : Program}
/-- An array variable is loaded whole, its cells known one by one. -/
theorem run_loadVar_cells (w : World) (g : Nat) (ty : TypeId) (cs : Array Value) (d : TypeDesc) (hc : ∀ j v, cs[j]? = some v → w.cell? ⟨g, j, none⟩ = some v)
    (hu : P.underlying ty = some d) (hd : (match d with | .struct _ | .array _ _ => true | _ => false) = true) (hi : (P.info? ty).map (·.size) = some cs.size) :
    (loadVar ty ⟨g, 0, none⟩).run P w = .ok (.agg cs) w := by
  have hl : (loadCells ⟨g, 0, none⟩ cs.toList.length).run P w = .ok cs.toList.toArray w :=
    run_loadCells_list (P := P) w ⟨g, 0, none⟩ cs.toList (fun j v hv => by
      have hadd : (⟨g, 0, none⟩ : Addr).add j = ⟨g, j, none⟩ := by unfold Addr.add; split <;> simp_all
      rw [hadd]
      exact hc j v (by simpa using hv))
  cases hq : P.info? ty with
  | none => simp [hq] at hi
  | some i =>
    have hs : i.size = cs.size := by simpa [hq] using hi
    have hagg : (isAgg ty).run P w = .ok true w := by
      unfold isAgg
      rw [Sem.run_bind, run_underlying hu w]
      cases d <;> simp_all
    simp only [Array.length_toList, Array.toArray_toList] at hl
    simp [loadVar, Sem.run_bind, hagg, sizeOf, typeInfo, hq, hs, hl]
theorem wpList_load_cells {ops : Array Oper} {rest : List Oper} {o : Oper} {a : Act} {w : World} {Q : Exit → Act → World → Prop} (hgd : o.guard = none) (ty : TypeId) (x : Operand) (ho : o.op = .load ty x)
    (g : Nat) (hx : a.eval x = .pointer (some ⟨g, 0, none⟩)) (cs : Array Value) (d : TypeDesc) (hc : ∀ j v, cs[j]? = some v → w.cell? ⟨g, j, none⟩ = some v)
    (hu : P.underlying ty = some d) (hd : (match d with | .struct _ | .array _ _ => true | _ => false) = true) (hi : (P.info? ty).map (·.size) = some cs.size)
    (h : wpList P ops Q rest (a.put o.dst (.agg cs)) w) : wpList P ops Q (o :: rest) a w :=
  wpList_plain hgd fun K hK => by
    unfold Oper.wp execOp
    simp only [ho, hx, Instr.loadAt, Instr.sureAddr, Sem.run_bind, Sem.run_pure, Result.andThen_ok, run_loadVar_cells w g ty cs d hc hu hd hi]
    exact hK _ _ h
end
/-- Value: what a symbol stands for. -/
def valV (x : Int) : Int := if idx x < 16 then idx x else if idx x < 20 then idx x - 16 else 0
def valC (x : Int) : Bool := decide (16 ≤ idx x) && decide (idx x < 20)
def valE (x : Int) : Int := if idx x < 20 then 0 else 3

/-- The table as one array value, behind a name. -/
def TA : Array Value := (T.map (Value.int .u8)).toArray
theorem TA_size : TA.size = 20 := rfl
theorem TA_get (j : Nat) (v : Value) (h : TA[j]? = some v) : j < 20 ∧ v = .int .u8 (T.getD j 0) := by
  have hj : j < 20 := by
    rcases Nat.lt_or_ge j 20 with h' | h'
    · exact h'
    · rw [Array.getElem?_eq_none (by rw [TA_size]; exact h')] at h; cases h
  refine ⟨hj, ?_⟩
  simp [TA, List.getElem?_eq_getElem (show j < T.length from hj)] at h
  rw [← h, List.getD_eq_getElem?_getD, List.getElem?_eq_getElem (show j < T.length from hj)]
  rfl
theorem TA_index (k : Nat) (w : World) (hk : k < 20) : (Instr.index 47 (.agg TA) (.int .i64 k)).run Tryd.prog w = .ok (.int .u8 (T.getD k 0)) w :=
  match k, hk with
    | 0, _ => by kernel_rfl
    | 1, _ => by kernel_rfl
    | 2, _ => by kernel_rfl
    | 3, _ => by kernel_rfl
    | 4, _ => by kernel_rfl
    | 5, _ => by kernel_rfl
    | 6, _ => by kernel_rfl
    | 7, _ => by kernel_rfl
    | 8, _ => by kernel_rfl
    | 9, _ => by kernel_rfl
    | 10, _ => by kernel_rfl
    | 11, _ => by kernel_rfl
    | 12, _ => by kernel_rfl
    | 13, _ => by kernel_rfl
    | 14, _ => by kernel_rfl
    | 15, _ => by kernel_rfl
    | 16, _ => by kernel_rfl
    | 17, _ => by kernel_rfl
    | 18, _ => by kernel_rfl
    | 19, _ => by kernel_rfl
    | k + 20, h => absurd h (by omega)
set_option maxHeartbeats 1000000 in
theorem value_c (x : Int) (w : World) (ht : Tab w) (h0 : 0 ≤ x) (h1 : x ≤ 255) : Calls Tryd.prog 16 #[.int .u8 x] w fun e w' => e = .returned (.tuple #[.int .i64 (valV x), .bool (valC x), .int .i64 (valE x)]) ∧ w = w' := by
  have hi := idx_le x
  have HT := hid ht
  clear ht
  go_enter Tryd.func16, Tryd.ntmps16
  go_wp2_with (refine wpList_load_cells rfl 47 _ rfl 0 rfl TA _ (fun j v hv => by obtain ⟨hj, rfl⟩ := TA_get j v hv; exact HT.out.2 j hj) Tryd.underlying47 rfl (by kernel_rfl) ?_)
  go_loop [8] (fun v8 => ∃ k : Nat, k ≤ idx x ∧ k ≤ 20 ∧ v8 = .int .i64 k) (fun v8 => 20 - (intOf v8).toNat)
  case atStart => exact ⟨0, by omega, by omega, rfl⟩
  case round =>
    obtain ⟨k, hk, hk2, rfl⟩ := hrel
    by_cases hlt : k < 20
    · have hix : ∀ w, (Instr.index 47 (.agg TA) (.int .i64 k)).run Tryd.prog w = .ok (.int .u8 (T.getD k 0)) w := fun w => TA_index k w hlt
      by_cases hx : k = idx x
      · have e1 : (T.getD k 0 != x) = false := by rw [hx]; simpa using idx_get x (by rw [← hx]; exact hlt)
        have hx2 : idx x < 20 := by omega
        by_cases h16 : k < 16
        · have h3 : idx x < 16 := by omega
          have E1 := hid (show valV x = k by unfold valV; rw [if_pos h3, hx])
          have h4 : ¬ 16 ≤ idx x := by omega
          have E2 := hid (show valC x = false by simp [valC, h4])
          have E3 := hid (show valE x = 0 by simp [valE, hx2])
          clear hx hx2 h3 h4 hk
          generalize T.getD k 0 = t at *
          go_wp2
          go_ret3
          exact ⟨by rw [E1.out, E2.out, E3.out] <;> rfl, rfl⟩
        · have h3 : ¬ idx x < 16 := by omega
          have E1 := hid (show valV x = k - 16 by unfold valV; rw [if_neg h3, if_pos hx2, hx])
          have h4 : 16 ≤ idx x := by omega
          have E2 := hid (show valC x = true by simp [valC, h4, hx2])
          have E3 := hid (show valE x = 0 by simp [valE, hx2])
          clear hx hx2 h3 h4 hk
          generalize T.getD k 0 = t at *
          go_wp2
          go_ret3
          exact ⟨by rw [E1.out, E2.out, E3.out] <;> rfl, rfl⟩
      · have e1 : (T.getD k 0 != x) = true := by simpa using idx_ne (x := x) hlt (by omega)
        have HKK := hid (show k + 1 ≤ idx x by omega)
        clear hx hk
        generalize T.getD k 0 = t at *
        go_wp2
        go_round
        case rel => exact ⟨k + 1, HKK.out, by omega, by go_num⟩
        case measure => simp [intOf]; omega
    · have hk' : k = 20 := by omega
      subst hk'
      have h3 : ¬ idx x < 16 := by omega
      have h4 : ¬ idx x < 20 := by omega
      have E1 := hid (show valV x = 0 by unfold valV; rw [if_neg h3, if_neg h4])
      have E2 := hid (show valC x = false by simp [valC, h4])
      have E3 := hid (show valE x = 3 by simp [valE, h4])
      clear hk h3 h4
      go_wp2
      go_ret3
      exact ⟨by rw [E1.out, E2.out, E3.out] <;> rfl, rfl⟩
end Go.Proofs.YtkpnggnanacaaaaDoor
