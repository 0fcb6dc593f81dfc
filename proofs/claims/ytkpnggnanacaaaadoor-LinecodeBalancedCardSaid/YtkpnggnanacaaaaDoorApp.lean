/- append of a whole slice of bytes onto a row of the call's own, the source nil, empty or not. -/
import Derived.Test.YtkpnggnanacaaaaDoorRd
import Derived.Test.YtkpnggnanacaaaaDoorPlainC
namespace Go.Proofs.YtkpnggnanacaaaaDoor
set_option linter.unusedVariables false
set_option linter.unusedSimpArgs false
open Go.RowKit
section
variable {P : Program} (w : World)
theorem run_append_nil_src (base : Nat) (t ty e : TypeId) (i : TypeInfo) (size : Nat) (ht : P.underlying t = some (.slice e)) (hi : P.info? e = some i)
    (v : Value) (n : Nat) (xs : List Value) (hown : w.ownsRow base e size v n xs) (c : Nat) : (Builtin.append_ #[t, t] ty #[v, .slice none 0 c]).run P w = .ok v w := by
  rcases hown.2 with ⟨rfl, rfl⟩ | ⟨g, cap, cur, rfl, _, _, hnc, _⟩
  · simp [Builtin.append_, run_underlying ht, sizeOf, typeInfo, hi, Builtin.lenOf, Builtin.firstCells]
  · simp [Builtin.append_, run_underlying ht, sizeOf, typeInfo, hi, Builtin.lenOf, Builtin.firstCells, hnc, storeCells]
theorem wpList_append_rd {ops : Array Oper} {rest : List Oper} {o : Oper} {a : Act} {Q : Exit → Act → World → Prop} (hgd : o.guard = none) (s x : Operand) (t : TypeId)
    (ho : o.op = .call { callee := .builtin .append, args := #[s, x], argTypes := #[t, t] })
    (base : Nat) (i : TypeInfo) (ht : P.underlying t = some (.slice 5)) (hi : P.info? 5 = some i) (hz : i.zero = some (.int .u8 0))
    (hsize : i.size = 1) (hby : i.bytes = 1)
    (v : Value) (n : Nat) (xs : List Value) (hs : a.eval s = v) (hown : w.ownsRow base 5 1 v n xs)
    (u : Value) (ys : List Int) (hx : a.eval x = u) (hr : Rd w u ys)
    (hn : n + ys.length ≤ 100000000) (hbase : base ≤ w.heap.size)
    (h : ∀ v' w', w'.ownsRow base 5 1 v' (n + ys.length) (xs ++ ys.map (Value.int .u8)) → w.grownBy w' v.ownBlock → wpList P ops Q rest (a.put o.dst v') w') : wpList P ops Q (o :: rest) a w := by
  obtain ⟨A, cap, rfl, hcap, hmax, hc⟩ := hr
  have key : ∃ v' w', (Builtin.append_ #[t, t] o.type #[v, .slice A ys.length cap]).run P w = .ok v' w' ∧ w'.ownsRow base 5 1 v' (n + ys.length) (xs ++ ys.map (Value.int .u8)) ∧ w.grownBy w' v.ownBlock := by
    rcases Nat.eq_zero_or_pos ys.length with h0 | h0
    · have hy : ys = [] := List.eq_nil_of_length_eq_zero h0
      subst hy
      rcases A with _ | ad
      · exact ⟨v, w, run_append_nil_src w base t o.type 5 i 1 ht hi v n xs hown cap, by simpa using hown, ⟨rfl, rfl, rfl, Nat.le_refl _, fun _ _ _ => rfl⟩⟩
      · obtain ⟨v', w', hrun, h2, h3, _⟩ := run_append_own_at (P := P) w base t o.type 5 i _ 1 1 ht hi hz hsize hby rfl (by decide) v n xs hown ad 0 cap [] rfl (fun j u hu => by simp at hu) (fun u hu => by cases hu) (by unfold maxLen; simp at hn; omega) (by simp at hn; omega) hbase
        exact ⟨v', w', hrun, by simpa using h2, h3⟩
    · obtain ⟨b, off, rfl, hlt, hcell⟩ := hc h0
      obtain ⟨v', w', hrun, h2, h3, _⟩ := run_append_own_at (P := P) w base t o.type 5 i _ 1 1 ht hi hz hsize hby rfl (by decide) v n xs hown ⟨b, off, none⟩ ys.length cap (ys.map (Value.int .u8)) (by simp) (news_at hcell) (one_map ys) (by unfold maxLen; omega) (by omega) hbase
      exact ⟨v', w', hrun, h2, h3⟩
  obtain ⟨v', w', hrun, h2, h3⟩ := key
  refine wpList_plain hgd fun K hK => ?_
  unfold Oper.wp execOp
  simp only [ho, resolve, invoke, builtin, Sem.run_bind, Sem.run_pure, Result.andThen_ok, List.map_toArray, List.map_cons, List.map_nil, hs, hx, hrun]
  exact hK _ _ (h v' w' h2 h3)
end
theorem own_slice {w : World} {base : Nat} {e : TypeId} {size n : Nat} {v : Value} {xs : List Value} (h : w.ownsRow base e size v n xs) : ∃ A cap, v = .slice A n cap := by
  rcases h.2 with ⟨rfl, h0⟩ | ⟨g, cap, cur, hv, _⟩
  · exact ⟨none, 0, by rw [h0]⟩
  · exact ⟨_, cap, hv⟩
theorem own_empty (w : World) (base : Nat) (hb : base ≤ w.heap.size) : (w.alloc (.cells #[] 5)).ownsRow base 5 1 (.slice (some ⟨w.heap.size, 0, none⟩) 0 0) 0 [] :=
  ⟨rfl, .inr ⟨w.heap.size, 0, #[], rfl, hb, heap_alloc_new w _, Nat.le_refl _, by unfold maxLen; omega, rfl, rfl⟩⟩
end Go.Proofs.YtkpnggnanacaaaaDoor
