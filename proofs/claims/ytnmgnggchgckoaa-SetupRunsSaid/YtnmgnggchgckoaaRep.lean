/- Setup: the walk of Repeat; owned rows carried on. -/
import Derived.Test.YtnmgnggchgckoaaRecv
namespace Go.Proofs.Ytnmgnggchgckoaa
set_option linter.unusedVariables false
set_option linter.unusedSimpArgs false
open Go.RowKit
theorem own_slice {w : World} {B sz n : Nat} {e : TypeId} {v : Value} {xs : List Value} (h : w.ownsRow B e sz v n xs) : ∃ A k, v = .slice A n k := by
  rcases h.2 with ⟨h2, rfl⟩ | ⟨g, cap, cur, h1, _⟩
  · exact ⟨_, _, h2⟩
  · exact ⟨_, _, h1⟩
theorem own_move {w w' : World} {B sz n : Nat} {e : TypeId} {v : Value} {xs : List Value} (h : w.ownsRow B e sz v n xs) (hk : ∀ g, v.ownBlock = some g → w'.heap[g]? = w.heap[g]?) : w'.ownsRow B e sz v n xs := by
  refine ⟨h.1, ?_⟩
  rcases h.2 with h2 | ⟨g, cap, cur, rfl, h2, h3, h4⟩
  · exact .inl h2
  · exact .inr ⟨g, cap, cur, rfl, h2, (hk g rfl).trans h3, h4⟩
theorem own_new {w w' : World} {B sz n : Nat} {e : TypeId} {v : Value} {xs : List Value} (h : w.ownsRow B e sz v n xs) (hb : Below w.heap.size w w') : w'.ownsRow B e sz v n xs :=
  own_move h fun g hg => hb.block g (h.lt g hg).2
theorem own_only {S : Nat → Prop} {w w' : World} {B sz n : Nat} {e : TypeId} {v : Value} {xs : List Value} (h : w.ownsRow B e sz v n xs) (hb : OnlyP S w w') (hS : ∀ g, S g → g < B) : w'.ownsRow B e sz v n xs :=
  own_move h fun g hg => hb.block g (h.lt g hg).2 (fun hs => by have := hS g hs; have := (h.lt g hg).1; omega)
theorem own_drewN {w : World} {B sz n : Nat} {e : TypeId} {v : Value} {xs : List Value} (h : w.ownsRow B e sz v n xs) (k : Nat) : (w.drewN k).ownsRow B e sz v n xs := h
/-- What hop i waits for. -/
def repI (c : Ch) (i : Nat) : List Msg := if c.st i = 1 then sendP c 1 ((i : Int) + 1) else if c.st i = 4 then sendP c 4 ((i : Int) + 1) else []
def repN (c : Ch) : Nat → List Msg
  | 0 => []
  | i + 1 => repN c i ++ repI c i
def repP (c : Ch) : List Msg := repN c c.n
theorem sendP_le (c : Ch) (k d : Int) : (sendP c k d).length ≤ 1 := by unfold sendP; split <;> simp
theorem repI_le (c : Ch) (i : Nat) : (repI c i).length ≤ 1 := by unfold repI; repeat' split
                                                                 all_goals first | exact sendP_le _ _ _ | simp
theorem repN_le (c : Ch) (i : Nat) : (repN c i).length ≤ i := by
  induction i with
  | zero => simp [repN]
  | succ i ih => simp only [repN, List.length_append]; have := repI_le c i; omega
theorem info38 : (Try.prog.info? 38).map (fun i => (i.zero, i.size, i.bytes)) = some (some (.agg #[.int .i64 0, .int .i64 0, .int .i64 0]), 3, 24) := by kernel_rfl
/-- The world of a round. -/
structure RepW (w : World) (c : Ch) (k : Nat) (v : Value) (wr : World) : Prop where
  own : wr.ownsRow w.heap.size 38 3 v (repN c k).length (mcells (repN c k))
  below : Below w.heap.size w wr
/-- One more part is appended. -/
theorem repW_app {w wr w1 w2 : World} {c : Ch} {k : Nat} {ms : List Msg} {v v' : Value} (h : RepW w c k v wr) (hb : Below wr.heap.size wr w1) (hi : repI c k = ms) (hg : w1.grownBy w2 v.ownBlock)
    (ho : w2.ownsRow w.heap.size 38 3 v' ((repN c k).length + ms.length) (mcells (repN c k) ++ mcells ms)) : RepW w c (k + 1) v' w2 := by
  have hn : ∀ g, v.ownBlock = some g → w.heap.size ≤ g := fun g hg' => (h.own.lt g hg').1
  exact ⟨by rw [repN, hi, List.length_append, mcells_app]; exact ho, (join h.below hb).grown hg (join h.below hb).size hn⟩
theorem repW_none {w wr : World} {c : Ch} {k : Nat} {v : Value} (h : RepW w c k v wr) (hi : repI c k = []) : RepW w c (k + 1) v wr :=
  ⟨by rw [repN, hi, List.append_nil]; exact h.own, h.below⟩
set_option maxHeartbeats 2000000 in
theorem rep_c (c : Ch) (w : World) (L : Loc) (h : IsCh w L c) :
    Calls Try.prog 15 #[.pointer (some ⟨L.p, 0, none⟩)] w (Sends w (repP c)) := by
  obtain ⟨i0, hi0, hz0, hz1, hz2⟩ := info_parts info38
  have c3 := h.tab.cell 3 (v := .slice (some ⟨L.S, 0, none⟩) c.n c.n) rfl
  have hlt := h.tab.lt
  have hn := h.ok.n2
  have H := Kept.mk h
  clear h
  go_enter Try.func15, Try.ntmps15
  go_wp2_with fail
  go_loopw [3, 13] (fun v3 v13 wr => ∃ k : Nat, k ≤ c.n ∧ v13 = .int .i64 k ∧ Kept (RepW w c k v3 wr)) (fun _ v13 _ => c.n - (intOf v13).toNat)
  case atStart => exact ⟨0, by omega, rfl, ⟨⟨World.ownsRow_nil _ _ _ _, Below.refl _ _⟩⟩⟩
  case round =>
    obtain ⟨k, hk, rfl, HT⟩ := hrel
    have HC := Kept.mk (H.out.new_ HT.out.below)
    by_cases hlt : k < c.n
    · have cs := HC.out.state hlt
      have hls := HC.out.row.lt
      have hs5 := HC.out.ok.st k hlt
      have hkl := repN_le c k
      obtain ⟨s, hs⟩ : ∃ s, c.st k = s := ⟨_, rfl⟩
      rw [hs] at cs hs5
      have hsc : s = 1 ∨ s = 4 ∨ (s ≠ 1 ∧ s ≠ 4) := by omega
      clear c3
      rcases hsc with rfl | rfl | ⟨n1, n4⟩
      · have HI := Kept.mk (show repI c k = sendP c 1 ((k : Int) + 1) by simp [repI, hs])
        clear hs hs5
        go_wp2_with fail
        refine (send_c c _ ((k : Int) + 1) _ L HC.out).mono ?_
        rintro e w1 ⟨v, rfl, ho, hb⟩
        obtain ⟨A, kap, rfl⟩ := own_slice ho
        have hm := sendP_le c 1 ((k : Int) + 1)
        have hm4 := sendP_le c 4 ((k : Int) + 1)
        have HB := Kept.mk hb
        have HR := Kept.mk (Reads.of_own ho)
        have HO := Kept.mk (own_new HT.out.own hb)
        have HZ := Kept.mk (join HT.out.below hb).size
        clear ho hb
        go_wp2_with (at_builtin; refine wpList_append_any _ rfl _ _ _ rfl w.heap.size 38 i0 _ 3 24 Try.underlying30 hi0 hz0 hz1 hz2 rfl (by omega) u3 _ _ rfl HO.out _ A _ kap _ rfl HR.out mcells_one (by unfold maxLen; omega) (by omega) HZ.out ?_; intro v' w2 ho hg _)
        have HN := Kept.mk (repW_app HT.out HB.out HI.out hg ho)
        clear ho hg
        go_wp2_with fail
        go_roundw
        case rel => exact ⟨k + 1, by omega, by go_num, HN⟩
        case measure => simp [intOf]; omega
      · have HI := Kept.mk (show repI c k = sendP c 4 ((k : Int) + 1) by simp [repI, hs])
        clear hs hs5
        go_wp2_with fail
        refine (send_c c _ ((k : Int) + 1) _ L HC.out).mono ?_
        rintro e w1 ⟨v, rfl, ho, hb⟩
        obtain ⟨A, kap, rfl⟩ := own_slice ho
        have hm := sendP_le c 1 ((k : Int) + 1)
        have hm4 := sendP_le c 4 ((k : Int) + 1)
        have HB := Kept.mk hb
        have HR := Kept.mk (Reads.of_own ho)
        have HO := Kept.mk (own_new HT.out.own hb)
        have HZ := Kept.mk (join HT.out.below hb).size
        clear ho hb
        go_wp2_with (at_builtin; refine wpList_append_any _ rfl _ _ _ rfl w.heap.size 38 i0 _ 3 24 Try.underlying30 hi0 hz0 hz1 hz2 rfl (by omega) u3 _ _ rfl HO.out _ A _ kap _ rfl HR.out mcells_one (by unfold maxLen; omega) (by omega) HZ.out ?_; intro v' w2 ho hg _)
        have HN := Kept.mk (repW_app HT.out HB.out HI.out hg ho)
        clear ho hg
        go_wp2_with fail
        go_roundw
        case rel => exact ⟨k + 1, by omega, by go_num, HN⟩
        case measure => simp [intOf]; omega
      · have HI := Kept.mk (show repI c k = [] by unfold repI; rw [hs, if_neg n1, if_neg n4])
        have q1 : (s == 1) = false := by simpa using n1
        have q4 : (s == 4) = false := by simpa using n4
        clear hs hs5 n1 n4
        go_wp2_with fail
        have HN := Kept.mk (repW_none HT.out HI.out)
        go_roundw
        case rel => exact ⟨k + 1, by omega, by go_num, HN⟩
        case measure => simp [intOf]; omega
    · obtain rfl : k = c.n := by omega
      go_wp2_with fail
      go_ret
      exact ⟨_, rfl, HT.out.own, HT.out.below⟩
theorem repNil_c (w : World) : Calls Try.prog 15 #[.pointer none] w fun e w' => e = .returned (.slice none 0 0) ∧ w = w' := by
  go_enter Try.func15, Try.ntmps15
  go_wp2_with fail
  go_ret
  exact ⟨rfl, rfl⟩
end Go.Proofs.Ytnmgnggchgckoaa
