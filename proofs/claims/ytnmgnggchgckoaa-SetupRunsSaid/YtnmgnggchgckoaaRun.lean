/- Setup: the walk of SetupPlain's closure run. -/
import Derived.Test.YtnmgnggchgckoaaPlainL
import Derived.Test.YtnmgnggchgckoaaRest
import Derived.ArgAppend
import Derived.StillTailTactics
namespace Go.Proofs.Ytnmgnggchgckoaa
set_option linter.unusedVariables false
set_option linter.unusedSimpArgs false
open Go.RowKit
theorem Blk.ne_ {w : World} {g g' : Nat} {t t' : TypeId} {cs cs' : Array Value} (h : Blk w g t cs) (h' : Blk w g' t' cs') (hne : t ≠ t') : g ≠ g' := by
  rintro rfl
  unfold Blk at h h'
  rw [h] at h'
  injection h' with h'
  injection h' with _ ht
  exact hne ht
theorem run_append_zero (w : World) (t ty e : TypeId) (i : TypeInfo) (ht : Try.prog.underlying t = some (.slice e)) (hi : Try.prog.info? e = some i) (A : Addr) (A2 : Option Addr) (k : Nat) :
    (Builtin.append_ #[t, t] ty #[.slice (some A) 0 0, .slice A2 0 k]).run Try.prog w = .ok (.slice (some A) 0 0) w := by
  cases A2 with
  | none => simp [Builtin.append_, run_underlying ht, sizeOf, typeInfo, hi, Builtin.lenOf, Builtin.firstCells, storeCells]
  | some a =>
    have hl := run_loadCells_list (P := Try.prog) w a [] (by simp)
    simp at hl
    simp [Builtin.append_, run_underlying ht, sizeOf, typeInfo, hi, Builtin.lenOf, Builtin.firstCells, storeCells, hl]
theorem wpList_append_zero {w : World} {ops : Array Oper} {rest : List Oper} {o : Oper} {a : Act} {Q : Exit → Act → World → Prop} (hgd : o.guard = none) (s x : Operand) (t : TypeId)
    (ho : o.op = .call { callee := .builtin .append, args := #[s, x], argTypes := #[t, t] }) (e : TypeId) (i : TypeInfo) (ht : Try.prog.underlying t = some (.slice e)) (hi : Try.prog.info? e = some i) (A : Addr) (A2 : Option Addr) (k : Nat)
    (hs : a.eval s = .slice (some A) 0 0) (hx : a.eval x = .slice A2 0 k) (h : wpList Try.prog ops Q rest (a.put o.dst (.slice (some A) 0 0)) w) : wpList Try.prog ops Q (o :: rest) a w := by
  have hrun := run_append_zero w t o.type e i ht hi A A2 k
  refine wpList_plain hgd fun K hK => ?_
  unfold Oper.wp execOp
  simp only [ho, resolve, invoke, builtin, Sem.run_bind, Sem.run_pure, Result.andThen_ok, List.map_toArray, List.map_cons, List.map_nil, hs, hx, hrun]
  exact hK _ _ h
/-- The rest of a run. -/
def Left (c' : Ch) (n t : Nat) (c : Ch) (f : List Msg) : Prop := runP (4 * n - t) c f = (c', [], true) ∧ f.length ≤ 1
theorem left_done {c c' : Ch} {n t : Nat} (h : Left c' n t c []) : c = c' := by
  have := h.1; rw [runP_nil] at this; injection this
theorem left_next {c c' : Ch} {n t : Nat} {m : Msg} (ht : t < 4 * n) (h : Left c' n t c [m]) : (recvP c m).2.2 = 0 ∧ Left c' n (t + 1) (recvP c m).1 (recvP c m).2.1 := by
  have h1 := h.1
  obtain ⟨d, hd⟩ : ∃ d, 4 * n - t = d + 1 := ⟨4 * n - t - 1, by omega⟩
  rw [hd] at h1
  simp only [runP, List.nil_append] at h1
  split at h1
  · rename_i e
    refine ⟨e, by rw [show 4 * n - (t + 1) = d by omega]; exact h1, ?_⟩
    unfold recvP
    repeat' split
    all_goals first | exact ruleP_len _ _ | simp
  · simp at h1
theorem left_out {c c' : Ch} {n : Nat} {f : List Msg} (h : Left c' n (4 * n) c f) : f = [] ∧ c = c' := by
  have h1 := h.1
  rw [Nat.sub_self] at h1
  simp only [runP, Prod.mk.injEq] at h1
  exact ⟨h1.2.1, h1.1⟩
/-- The world of a round. -/
structure LW (w : World) (L : Loc) (P Q : Nat) (AL : Option Addr) (n kl : Nat) (c c' : Ch) (t : Nat) (f : List Msg) (v : Value) (wr : World) : Prop where
  left : Left c' n t c f
  ch : IsCh wr L c
  fly : ∃ A k, v = .slice A f.length k ∧ f.length ≤ k ∧ Reads wr wr.heap.size 3 A f.length (mcells f)
  bp : Blk wr P 22 #[.slice AL n kl]
  bq : Blk wr Q 24 #[.pointer (some ⟨L.p, 0, none⟩)]
  only : OnlyP (fun x => x = L.S) w wr
set_option maxHeartbeats 4000000 in
theorem run_c (c c' : Ch) (f : List Msg) (v : Value) (w : World) (L : Loc) (P Q : Nat) (AL : Option Addr) (n kl : Nat) (hn : n ≤ 1000) (h : LW w L P Q AL n kl c c' 0 f v w) :
    Calls Try.prog 17 #[v, .pointer (some ⟨P, 0, none⟩), .pointer (some ⟨Q, 0, none⟩)] w fun e w' => e = .returned (.bool true) ∧ IsCh w' L c' ∧ OnlyP (fun x => x = L.S) w w' := by
  obtain ⟨i0, hi0, hz0, hz1, hz2⟩ := info_parts info38
  have HT0 := Kept.mk h
  have cp := h.bp.cell 0 (v := .slice AL n kl) rfl
  have hpl := h.bp.lt
  clear h
  go_enter Try.func17, Try.ntmps17
  go_wp2_with fail
  go_loopw [0, 10] (fun v0 v10 wr => ∃ (t : Nat) (ct : Ch) (ft : List Msg), t ≤ 4 * n ∧ v10 = .int .i64 t ∧ Kept (LW w L P Q AL n kl ct c' t ft v0 wr)) (fun _ v10 _ => 4 * n - (intOf v10).toNat)
  case atStart => exact ⟨0, c, f, by omega, rfl, HT0⟩
  case round =>
    obtain ⟨t, ct, ft, ht, rfl, HT⟩ := hrel
    clear HT0
    obtain ⟨A, k, rfl, hfk, hfr⟩ := HT.out.fly
    by_cases hlt : t < 4 * n
    · rcases ft with _ | ⟨m, _ | ⟨m2, r⟩⟩
      · have HE := Kept.mk (left_done HT.out.left)
        clear hfr
        go_wp2_with fail
        go_ret
        exact ⟨rfl, by rw [← HE.out]; exact HT.out.ch, HT.out.only⟩
      · obtain ⟨h0, hnx⟩ := left_next hlt HT.out.left
        have H0 := Kept.mk h0
        have HNX := Kept.mk hnx
        have hll := hnx.2
        obtain ⟨b, off, rfl, -, hb, hc⟩ := hfr.spot (by simp) (by omega)
        have c1 := hc 0 _ rfl
        have c2 := hc 1 _ rfl
        have c3 := hc 2 _ rfl
        rw [Nat.add_zero] at c1
        have cq := HT.out.bq.cell 0 (v := .pointer (some ⟨L.p, 0, none⟩)) rfl
        have hql := HT.out.bq.lt
        clear h0 hnx hc hfr
        go_wp2_with fail
        go_region_with (go_at_call 18; refine (recv_c ct m _ L (by first | exact HT.out.ch | exact HT.out.ch.drew | exact HT.out.ch.drewN _)).mono ?_; rintro e w2 ⟨v2, rfl, ho2, hc2, hO2⟩; obtain ⟨A2, k2, rfl⟩ := own_slice ho2)
        all_goals simp only [Act.put, List.setIfInBounds_toArray, List.set_cons_zero, List.set_cons_succ, List.getElem_toArray, List.getElem_cons_succ, List.getElem_cons_zero]
        all_goals
          have hO3 : OnlyP (fun x => x = L.S) wr w2 := ((OnlyP.refl _ _).drew).trans hO2
          have HBP := Kept.mk (HT.out.bp.only hO3 (Blk.ne_ HT.out.bp HT.out.ch.row (by decide)))
          have HBQ := Kept.mk (HT.out.bq.only hO3 (Blk.ne_ HT.out.bq HT.out.ch.row (by decide)))
          have HON := Kept.mk (HT.out.only.trans hO3)
          have HCH := Kept.mk hc2
          have HRD := Kept.mk (own_reads ho2)
          clear hO2 hO3 hc2 ho2 HT c1 c2 c3 cq
          obtain ⟨q, hq⟩ : ∃ q, recvP ct m = q := ⟨_, rfl⟩
          rw [hq] at H0 HNX hll HCH HRD
          simp only [hq, H0.out]
          clear hq
          obtain ⟨q1, q2, q3⟩ := q
          dsimp only at H0 HNX hll HCH HRD
          dsimp only
          rcases q2 with _ | ⟨x, _ | ⟨y, r⟩⟩
          · simp only [List.length_nil, List.length_cons, Nat.zero_add] at *
            go_wp2_with (at_builtin; refine wpList_append_zero rfl _ _ _ rfl 38 i0 Try.underlying30 hi0 ⟨b, off, none⟩ A2 k2 rfl rfl ?_)
            go_roundw
            case rel => exact ⟨t + 1, q1, [], by omega, by go_num, ⟨⟨HNX.out, HCH.out, ⟨_, _, rfl, by simp, ⟨by simp [mcells], fun h => absurd h (by simp)⟩⟩, HBP.out, HBQ.out, HON.out⟩⟩⟩
            case measure => simp [intOf]; omega
          · obtain ⟨b2, off2, rfl, -, hb2, hc⟩ := HRD.out.spot (by simp) (by omega)
            have HC2 : Kept (∀ j u, (mcells [x])[j]? = some u → w2.cell? ((⟨b2, off2, none⟩ : Addr).add j) = some u) := ⟨fun j u hu => by
              have h1 := hc j u hu
              unfold Addr.add
              split
              · rename_i e; subst e; simpa using h1
              · exact h1⟩
            clear hc
            simp only [List.length_cons, List.length_nil, Nat.zero_add] at *
            go_wp2_with (at_builtin; refine wpList_append_grows _ rfl _ _ _ rfl 38 i0 _ 3 24 Try.underlying30 hi0 hz0 hz1 hz2 rfl (by omega) (some ⟨b, off, none⟩) 0 0 [] rfl (by simp) rfl (by simp) ⟨b2, off2, none⟩ 1 k2 (mcells [x]) rfl rfl HC2.out mcells_one (by omega) (by unfold maxLen; omega) (by omega) ?_; intro v4 w4 ho4 hg4)
            obtain ⟨A4, k4, rfl⟩ := own_slice ho4
            have HN4 : Kept (LW w L P Q AL n kl q1 c' (t + 1) [x] (.slice A4 (0 + 1) k4) w4) := ⟨⟨HNX.out, HCH.out.grown hg4 (by simp), ⟨_, _, rfl, own_cap ho4, by have := own_reads ho4; simpa using this⟩, (hg4.block _ HBP.out.lt (by simp)).trans HBP.out, (hg4.block _ HBQ.out.lt (by simp)).trans HBQ.out, HON.out.grown hg4 (by simp)⟩⟩
            clear ho4 hg4
            go_wp2_with fail
            go_roundw
            case rel => exact ⟨t + 1, q1, [x], by omega, by go_num, HN4⟩
            case measure => simp [intOf]; omega
          · exact absurd hll (by simp)
      · exact absurd HT.out.left.2 (by simp)
    · obtain rfl : t = 4 * n := by omega
      obtain ⟨e1, e2⟩ := left_out HT.out.left
      subst e1 e2
      clear hfr
      go_wp2_with fail
      go_ret
      exact ⟨rfl, HT.out.ch, HT.out.only⟩
end Go.Proofs.Ytnmgnggchgckoaa
