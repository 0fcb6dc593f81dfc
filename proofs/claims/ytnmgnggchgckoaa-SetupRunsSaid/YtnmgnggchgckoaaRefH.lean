/- Setup: the reference's Holds, Left, Repeat. -/
import Derived.Test.YtnmgnggchgckoaaRefF
import Derived.Test.YtnmgnggchgckoaaRep
import Derived.Test.YtnmgnggchgckoaaRegK
namespace Go.Proofs.Ytnmgnggchgckoaa
set_option linter.unusedVariables false
set_option linter.unusedSimpArgs false
open Go.RowKit
theorem reads_made (w : World) (cs : Array Value) (t : TypeId) (size n : Nat) (h : cs.size = n * size) : Reads (w.alloc (.cells cs t)) (w.heap.size + 1) size (some ⟨w.heap.size, 0, none⟩) n cs.toList :=
  ⟨by simpa using h, fun _ => ⟨_, rfl, Nat.lt_succ_self _, World.news_of_block (heap_alloc_new w _)⟩⟩
theorem holds_c (s : Int) (w : World) : Calls Try.prog 44 #[.int .i64 s] w fun e w' => e = .returned (.bool (heldB s)) ∧ w = w' := by
  by_cases h1 : s = 1
  · have q1 : (s == 1) = true := by simpa using h1
    have HB := Kept.mk (show heldB s = true by simp [heldB, h1])
    clear h1
    go_enter Try.func44, Try.ntmps44
    go_wp2_with fail
    go_ret
    exact ⟨ret_bool HB.out.symm, rfl⟩
  · have q1 : (s == 1) = false := by simpa using h1
    by_cases h2 : s = 2
    · have q2 : (s == 2) = true := by simpa using h2
      have HB := Kept.mk (show heldB s = true by simp [heldB, h2])
      clear h1 h2
      go_enter Try.func44, Try.ntmps44
      go_wp2_with fail
      go_ret
      exact ⟨ret_bool HB.out.symm, rfl⟩
    · have q2 : (s == 2) = false := by simpa using h2
      have HB := Kept.mk (show heldB s = (s == 4) by simp [heldB, h1, h2])
      clear h1 h2
      go_enter Try.func44, Try.ntmps44
      go_wp2_with fail
      go_ret
      exact ⟨ret_bool (by rw [HB.out]), rfl⟩
section
variable {c : Ch} {gA k gD m : Nat} {w : World}
/-- One box: the parameter's. -/
theorem box_one (w : World) (cs : Array Value) : ∃ W, W = w.alloc (.cells cs 51) ∧ Blk W w.heap.size 51 cs ∧ Below w.heap.size w W := ⟨_, rfl, Blk.new _ _ _, (Below.refl _ _).alloc (Nat.le_refl _) _⟩
set_option maxHeartbeats 4000000 in
theorem rleft_c (z : Int) (h : RefV w c (at4 gA k gD m)) :
    Calls Try.prog 30 #[.agg #[.int .i64 c.conn, .int .i64 c.need, .slice (some ⟨gA, 0, none⟩) c.n k, .slice (some ⟨gD, 0, none⟩) c.n m], .int .i64 z] w fun e w' => e = .returned (.int .i64 (leftP c z)) ∧ Below w.heap.size w w' := by
  have hn := h.ok.n2
  have hn1 := h.ok.n1
  have hq1 := h.ok.need1
  have hq2 := h.ok.need2
  obtain ⟨W0, hW0, hB, hD⟩ := box_one w #[.int .i64 c.conn, .int .i64 c.need, .slice (some ⟨gA, 0, none⟩) c.n k, .slice (some ⟨gD, 0, none⟩) c.n m]
  have hV := h.new_ hD
  have HD := Kept.mk hD
  have k1 := hB.cell 1 (v := .int .i64 c.need) rfl
  have k2 := hB.cell 2 (v := .slice (some ⟨gA, 0, none⟩) c.n k) rfl
  have k3 := hB.cell 3 (v := .slice (some ⟨gD, 0, none⟩) c.n m) rfl
  have kz := hB.lt
  by_cases h0 : z < 0
  · have HE := Kept.mk (show leftP c z = -1 by unfold leftP; rw [if_neg (by simp [Ch.hasB]; omega)])
    clear h hV hB hD
    go_enter Try.func30, Try.ntmps30
    go_upto_region 1 with fail
    rw [← hW0]
    clear hW0
    go_wp2_with fail
    go_ret
    exact ⟨ret_int HE.out.symm, HD.out⟩
  · by_cases h1 : (c.n : Int) ≤ z
    · have HE := Kept.mk (show leftP c z = -1 by unfold leftP; rw [if_neg (by simp [Ch.hasB]; omega)])
      clear h hV hB hD
      go_enter Try.func30, Try.ntmps30
      go_upto_region 1 with fail
      rw [← hW0]
      clear hW0
      go_wp2_with fail
      go_ret
      exact ⟨ret_int HE.out.symm, HD.out⟩
    · obtain ⟨i, rfl⟩ : ∃ i : Nat, z = i := ⟨z.toNat, by omega⟩
      have hi : i < c.n := by omega
      have s0 := hV.cD hi
      have r0 := hV.cA hi
      have zA := hV.zA
      have zD := hV.zD
      obtain ⟨rr1, rr2⟩ := h.ok.room i hi
      have HH : Kept (c.hasB (i : Int) = true) := ⟨by simp [Ch.hasB]; omega⟩
      obtain ⟨s, hs⟩ : ∃ s, c.st i = s := ⟨_, rfl⟩
      obtain ⟨r, hr⟩ : ∃ r, c.room i = r := ⟨_, rfl⟩
      have HE := Kept.mk (show leftP c i = if heldB s = true then r - c.need else r by unfold leftP; rw [if_pos HH.out, Int.toNat_natCast, hs, hr])
      rw [hs] at s0
      rw [hr] at r0 rr1 rr2
      clear h hV hB hD hs hr
      cases hb : heldB s with
      | true =>
        have HB := Kept.mk hb
        clear hb
        go_enter Try.func30, Try.ntmps30
        go_upto_region 1 with fail
        rw [← hW0]
        clear hW0
        go_wp2_with (go_at_call 44; refine (holds_c s _).mono ?_; rintro e w1 ⟨rfl, rfl⟩; rw [HB.out])
        go_quiet (fail)
        go_wp2_with fail
        go_ret
        exact ⟨ret_int (by rw [HE.out, if_pos HB.out]), dN HD.out _⟩
      | false =>
        have HB := Kept.mk hb
        clear hb
        go_enter Try.func30, Try.ntmps30
        go_upto_region 1 with fail
        rw [← hW0]
        clear hW0
        go_wp2_with (go_at_call 44; refine (holds_c s _).mono ?_; rintro e w1 ⟨rfl, rfl⟩; rw [HB.out])
        go_ret
        exact ⟨ret_int (by rw [HE.out, if_neg (by rw [HB.out]; simp)]), HD.out⟩
/-- The last hop waits for nobody. -/
def LastOk (c : Ch) : Prop := ∀ i, i < c.n → c.st i = 1 ∨ c.st i = 4 → i + 1 < c.n
theorem repI_last (hl : LastOk c) {i : Nat} (hi : i < c.n) : repI c i = if c.st i = 1 ∨ c.st i = 4 then [⟨c.st i, c.conn, (i : Int) + 1⟩] else [] := by
  unfold repI sendP
  by_cases h1 : c.st i = 1
  · have := hl i hi (.inl h1)
    rw [if_pos h1, if_pos (by simp [Ch.hasB]; omega), if_pos (.inl h1), h1]
  · rw [if_neg h1]
    by_cases h4 : c.st i = 4
    · have := hl i hi (.inr h4)
      rw [if_pos h4, if_pos (by simp [Ch.hasB]; omega), if_pos (.inr h4), h4]
    · rw [if_neg h4, if_neg (by rintro (e | e); exact h1 e; exact h4 e)]
/-- While the messages are put together. -/
structure RpW (w : World) (c : Ch) (gA k gD m bp i : Nat) (v : Value) (wr : World) : Prop where
  vv : RefV wr c (at4 gA k gD m)
  bx : Blk wr bp 51 #[.int .i64 c.conn, .int .i64 c.need, .slice (some ⟨gA, 0, none⟩) c.n k, .slice (some ⟨gD, 0, none⟩) c.n m]
  own : wr.ownsRow w.heap.size 58 3 v (repN c i).length (mcells (repN c i))
  bel : Below w.heap.size w wr
theorem RpW.new_ {bp i : Nat} {v : Value} {wr w' : World} (h : RpW w c gA k gD m bp i v wr) (hb : Below wr.heap.size wr w') : RpW w c gA k gD m bp i v w' := ⟨h.vv.new_ hb, h.bx.new_ hb, own_new h.own hb, join h.bel hb⟩
theorem own_blk_ne {w : World} {g : Nat} {t : TypeId} {cs : Array Value} {base : Nat} {e : TypeId} {size n : Nat} {v : Value} {xs : List Value} (h : w.ownsRow base e size v n xs) (hg : Blk w g t cs) (hne : e ≠ t) : v.ownBlock ≠ some g := by
  rcases h.2 with ⟨rfl, _⟩ | ⟨g', cap, cur, rfl, _, hh, _⟩
  · simp [Value.ownBlock]
  · intro he
    simp [Value.ownBlock] at he
    subst he
    exact Blk.ne_ (w := w) hh hg hne rfl
theorem RefV.grown {w' : World} {n : Nat} {v : Value} {xs : List Value} {B : Nat} (h : RefV w c (at4 gA k gD m)) (ho : w.ownsRow B 58 3 v n xs) (hg : w.grownBy w' v.ownBlock) : RefV w' c (at4 gA k gD m) := by
  obtain ⟨g, cur, e, h1, h2⟩ := h.roomsR
  obtain ⟨g', cur', e', h1', h2'⟩ := h.stsR
  exact ⟨⟨g, cur, e, h1.grown hg (fun e => own_blk_ne ho h1 (by decide) e.symm), h2⟩, ⟨g', cur', e', h1'.grown hg (fun e => own_blk_ne ho h1' (by decide) e.symm), h2'⟩, h.ok⟩
theorem RpW.app {bp i : Nat} {v v' : Value} {wr w' : World} {q : Msg} (h : RpW w c gA k gD m bp i v wr) (hg : wr.grownBy w' v.ownBlock) (ho : w'.ownsRow w.heap.size 58 3 v' ((repN c i).length + 1) (mcells (repN c i) ++ mcells [q])) (hq : repI c i = [q]) : RpW w c gA k gD m bp (i + 1) v' w' :=
  ⟨h.vv.grown h.own hg, h.bx.grown hg (fun e => own_blk_ne h.own h.bx (by decide) e.symm), by rw [repN, hq, List.length_append, mcells_app]; exact ho, h.bel.grown hg h.bel.size (fun j hj => (h.own.lt j hj).1)⟩
theorem RpW.none {bp i : Nat} {v : Value} {wr : World} (h : RpW w c gA k gD m bp i v wr) (hq : repI c i = []) : RpW w c gA k gD m bp (i + 1) v wr :=
  ⟨h.vv, h.bx, by rw [repN, hq, List.append_nil]; exact h.own, h.bel⟩
set_option maxHeartbeats 8000000 in
theorem rrep_c (h : RefV w c (at4 gA k gD m)) (hl : LastOk c) :
    Calls Try.prog 28 #[.agg #[.int .i64 c.conn, .int .i64 c.need, .slice (some ⟨gA, 0, none⟩) c.n k, .slice (some ⟨gD, 0, none⟩) c.n m]] w fun e w' => ∃ v, e = .returned v ∧ w'.ownsRow w.heap.size 58 3 v (repP c).length (mcells (repP c)) ∧ Below w.heap.size w w' := by
  obtain ⟨i0, hi0, hz0, hz1, hz2⟩ := info_parts info58
  have hn := h.ok.n2
  have hn1 := h.ok.n1
  have HL := Kept.mk hl
  obtain ⟨W0, hW0, hB, hD⟩ := box_one w #[.int .i64 c.conn, .int .i64 c.need, .slice (some ⟨gA, 0, none⟩) c.n k, .slice (some ⟨gD, 0, none⟩) c.n m]
  have HS0 : Kept (RpW w c gA k gD m w.heap.size 0 (.slice none 0 0) W0) := ⟨h.new_ hD, hB, World.ownsRow_nil _ _ _ _, hD⟩
  clear h hl hB hD
  go_enter Try.func28, Try.ntmps28
  go_upto_region 1 with fail
  rw [← hW0]
  clear hW0
  go_wp2_with fail
  go_loopw [3, 4] (fun v3 v4 wr => ∃ i : Nat, i ≤ c.n ∧ v4 = .int .i64 i ∧ Kept (RpW w c gA k gD m w.heap.size i v3 wr)) (fun _ v4 _ => c.n - (intOf v4).toNat)
  case atStart => exact ⟨0, by omega, rfl, HS0⟩
  case round =>
    clear HS0
    obtain ⟨i, hi, rfl, HR⟩ := hrel
    have k0 := HR.out.bx.cell 0 (v := .int .i64 c.conn) rfl
    have k3 := HR.out.bx.cell 3 (v := .slice (some ⟨gD, 0, none⟩) c.n m) rfl
    have kz := HR.out.bx.lt
    by_cases hit : i < c.n
    · have s0 := HR.out.vv.cD hit
      have zD := HR.out.vv.zD
      have hrn := repN_le c i
      have HI := Kept.mk (repI_last HL.out hit)
      obtain ⟨s, hs⟩ : ∃ s, c.st i = s := ⟨_, rfl⟩
      rw [hs] at s0 HI
      by_cases hh : s = 1 ∨ s = 4
      · have HQ : Kept (repI c i = [⟨s, c.conn, (i : Int) + 1⟩]) := ⟨by rw [HI.out, if_pos hh]⟩
        rcases hh with rfl | rfl
        · have hw1 : IntKind.i64.wrap ((i : Int) + 1) = (i : Int) + 1 := IntWalk.i64_in _ (by omega)
          have HSS := Kept.mk hs
          have HW6 : Kept (RpW w c gA k gD m w.heap.size i _ (wr.alloc (.cells #[.int .i64 1, .int .i64 c.conn, .int .i64 ((i : Int) + 1)] 58)).drew) := ⟨HR.out.new_ (dN ((Below.refl _ _).alloc (Nat.le_refl _) _) 1)⟩
          have HOK := Kept.mk HW6.out.own
          have HMS := Kept.mk ((reads_made wr #[.int .i64 1, .int .i64 c.conn, .int .i64 ((i : Int) + 1)] 58 3 1 rfl).drew)
          have HDS : Kept (w.heap.size ≤ (wr.alloc (.cells #[.int .i64 1, .int .i64 c.conn, .int .i64 ((i : Int) + 1)] 58)).drew.heap.size) := ⟨HW6.out.bel.size⟩
          have g1 : ∀ u ∈ (#[Value.int .i64 1, .int .i64 c.conn, .int .i64 ((i : Int) + 1)]).toList, u.oneCell' = true := (by intro u hu; simp at hu; rcases hu with rfl | rfl | rfl <;> rfl)
          have x0 : wr.drew.cell? ⟨w.heap.size, 0, none⟩ = some (.int .i64 c.conn) := k0
          have x1 : wr.drew.cell? ⟨w.heap.size, 3, none⟩ = some (.slice (some ⟨gD, 0, none⟩) c.n m) := k3
          have x2 : wr.drew.cell? ⟨gD, i, none⟩ = some (.int .i64 1) := s0
          have j0 : (wr.alloc (.cells #[.int .i64 1, .int .i64 c.conn, .int .i64 ((i : Int) + 1)] 58)).drew.cell? ⟨w.heap.size, 0, none⟩ = some (.int .i64 c.conn) := (World.cell?_alloc_lt wr _ _ kz).trans k0
          have j1 : (wr.alloc (.cells #[.int .i64 1, .int .i64 c.conn, .int .i64 ((i : Int) + 1)] 58)).drew.cell? ⟨w.heap.size, 3, none⟩ = some (.slice (some ⟨gD, 0, none⟩) c.n m) := (World.cell?_alloc_lt wr _ _ kz).trans k3
          have j2 : (wr.alloc (.cells #[.int .i64 1, .int .i64 c.conn, .int .i64 ((i : Int) + 1)] 58)).drew.cell? ⟨gD, i, none⟩ = some (.int .i64 1) := (World.cell?_alloc_lt wr _ _ zD).trans s0
          clear hs
          go_upto_region 6 with fail
          refine wp_region_K (S := (fun w' => w'.cell? ⟨w.heap.size, 0, none⟩ = some (.int .i64 c.conn) ∧ w'.cell? ⟨w.heap.size, 3, none⟩ = some (.slice (some ⟨gD, 0, none⟩) c.n m) ∧ w'.cell? ⟨gD, i, none⟩ = some (.int .i64 1))) (k := 13) (by kernel_rfl) (by (try dsimp only); (first | (go_keep; done) | (go_simp; done) | exact ⟨y0, y1, y2⟩ | exact ⟨x0, x1, x2⟩ | exact ⟨j0, j1, j2⟩)) (fun hHeld => ?_)
          refine wpAnyK_take (i := 0) (v := ?_) rfl (by kernel_rfl) (by kernel_rfl) (by kernel_rfl) (by kernel_rfl) (fun _ _ _ h => h) (Or.inl ⟨by rfl, ?_⟩) (by assumption) ?_; rotate_left; (intro w hSw; (try dsimp only at hSw); go_simp; try (with_reducible rfl)); try simp only [Act.put, List.setIfInBounds_toArray, List.set_cons_zero, List.set_cons_succ, List.getElem_toArray, List.getElem_cons_succ, List.getElem_cons_zero]
          refine wpAnyK_take (i := 1) (v := ?_) rfl (by kernel_rfl) (by kernel_rfl) (by kernel_rfl) (by kernel_rfl) (fun _ _ _ h => h) (Or.inl ⟨by rfl, ?_⟩) (by assumption) ?_; rotate_left; (intro w hSw; (try dsimp only at hSw); go_simp; try (with_reducible rfl)); try simp only [Act.put, List.setIfInBounds_toArray, List.set_cons_zero, List.set_cons_succ, List.getElem_toArray, List.getElem_cons_succ, List.getElem_cons_zero]
          refine wpAnyK_take (i := 2) (v := ?_) rfl (by kernel_rfl) (by kernel_rfl) (by kernel_rfl) (by kernel_rfl) (fun _ _ _ h => h) (Or.inl ⟨by rfl, ?_⟩) (by assumption) ?_; rotate_left; (intro w hSw; (try dsimp only at hSw); go_simp; try (with_reducible rfl)); try simp only [Act.put, List.setIfInBounds_toArray, List.set_cons_zero, List.set_cons_succ, List.getElem_toArray, List.getElem_cons_succ, List.getElem_cons_zero]
          refine wpAnyK_take (i := 3) (v := ?_) rfl (by kernel_rfl) (by kernel_rfl) (by kernel_rfl) (by kernel_rfl) (fun _ _ _ h => h) (Or.inl ⟨by rfl, ?_⟩) (by assumption) ?_; rotate_left; (intro w hSw; (try dsimp only at hSw); go_simp; try (with_reducible rfl)); try simp only [Act.put, List.setIfInBounds_toArray, List.set_cons_zero, List.set_cons_succ, List.getElem_toArray, List.getElem_cons_succ, List.getElem_cons_zero]
          refine wpAnyK_take (i := 4) (v := ?_) rfl (by kernel_rfl) (by kernel_rfl) (by kernel_rfl) (by kernel_rfl) (fun _ _ _ h => h) (Or.inl ⟨by rfl, ?_⟩) (by assumption) ?_; rotate_left; (intro w hSw; (try dsimp only at hSw); go_simp; try (with_reducible rfl)); try simp only [Act.put, List.setIfInBounds_toArray, List.set_cons_zero, List.set_cons_succ, List.getElem_toArray, List.getElem_cons_succ, List.getElem_cons_zero]
          refine wpAnyK_take (i := 5) (v := ?_) rfl (by kernel_rfl) (by kernel_rfl) (by kernel_rfl) (by kernel_rfl) (fun _ _ _ h => h) (Or.inl ⟨by rfl, ?_⟩) (by assumption) ?_; rotate_left; (intro w hSw; (try dsimp only at hSw); go_simp; try (with_reducible rfl)); try simp only [Act.put, List.setIfInBounds_toArray, List.set_cons_zero, List.set_cons_succ, List.getElem_toArray, List.getElem_cons_succ, List.getElem_cons_zero]
          refine wpAnyK_take (i := 6) (v := ?_) rfl (by kernel_rfl) (by kernel_rfl) (by kernel_rfl) (by kernel_rfl) (fun _ _ _ h => h) (Or.inl ⟨by rfl, ?_⟩) (by assumption) ?_; rotate_left; (intro w hSw; (try dsimp only at hSw); go_simp; try (with_reducible rfl)); try simp only [Act.put, List.setIfInBounds_toArray, List.set_cons_zero, List.set_cons_succ, List.getElem_toArray, List.getElem_cons_succ, List.getElem_cons_zero]
          refine wpAnyK_take (i := 7) (v := ?_) rfl (by kernel_rfl) (by kernel_rfl) (by kernel_rfl) (by kernel_rfl) (fun _ _ _ h => h) (Or.inl ⟨by rfl, ?_⟩) (by assumption) ?_; rotate_left; (intro w hSw; (try dsimp only at hSw); go_simp; try (with_reducible rfl)); try simp only [Act.put, List.setIfInBounds_toArray, List.set_cons_zero, List.set_cons_succ, List.getElem_toArray, List.getElem_cons_succ, List.getElem_cons_zero]
          refine wpAnyK_take (i := 8) (v := ?_) rfl (by kernel_rfl) (by kernel_rfl) (by kernel_rfl) (by kernel_rfl) (fun _ _ _ h => h) (Or.inl ⟨by rfl, ?_⟩) (by assumption) ?_; rotate_left; (intro w hSw; (try dsimp only at hSw); go_simp; try (with_reducible rfl)); try simp only [Act.put, List.setIfInBounds_toArray, List.set_cons_zero, List.set_cons_succ, List.getElem_toArray, List.getElem_cons_succ, List.getElem_cons_zero]
          refine wpAnyK_take (i := 9) (v := ?_) rfl (by kernel_rfl) (by kernel_rfl) (by kernel_rfl) (by kernel_rfl) (fun _ _ _ h => h) (Or.inl ⟨by rfl, ?_⟩) (by assumption) ?_; rotate_left; (intro w hSw; (try dsimp only at hSw); go_simp; try (with_reducible rfl)); try simp only [Act.put, List.setIfInBounds_toArray, List.set_cons_zero, List.set_cons_succ, List.getElem_toArray, List.getElem_cons_succ, List.getElem_cons_zero]
          refine wpAnyK_take (i := 10) (v := ?_) rfl (by kernel_rfl) (by kernel_rfl) (by kernel_rfl) (by kernel_rfl) (fun _ _ _ h => h) (Or.inl ⟨by rfl, ?_⟩) (by assumption) ?_; rotate_left; (intro w hSw; (try dsimp only at hSw); go_simp; try (with_reducible rfl)); try simp only [Act.put, List.setIfInBounds_toArray, List.set_cons_zero, List.set_cons_succ, List.getElem_toArray, List.getElem_cons_succ, List.getElem_cons_zero]
          refine wpAnyK_one (i := 11) (by kernel_rfl) rfl (fun K hK => ?_); go_simp
          refine hK.out _ _ (by (try dsimp only); (first | (go_keep; done) | (go_simp; done) | exact ⟨y0, y1, y2⟩ | exact ⟨x0, x1, x2⟩ | exact ⟨j0, j1, j2⟩)) (fun hHeld => ?_); clear hK K; try simp only [Act.put, List.setIfInBounds_toArray, List.set_cons_zero, List.set_cons_succ, List.getElem_toArray, List.getElem_cons_succ, List.getElem_cons_zero]
          refine wpAnyK_one (i := 12) (by kernel_rfl) rfl (fun K hK => ?_)
          refine step_append_any _ rfl (.tmp 26) (.tmp 37) 53 rfl w.heap.size 58 i0 _ 3 24 Try.underlying53 hi0 hz0 hz1 hz2 rfl (by omega) _ (repN c i).length _ rfl HOK.out _ _ 1 1 _ rfl HMS.out g1 (by unfold maxLen; omega) (by omega) HDS.out ?_; intro v' w5 ho hgw hat; have HW9 := Kept.mk (HW6.out.app hgw ho HQ.out); have y0 := HW9.out.bx.cell 0 (v := .int .i64 c.conn) rfl; have y1 := HW9.out.bx.cell 3 (v := .slice (some ⟨gD, 0, none⟩) c.n m) rfl; have y2 := HW9.out.vv.cD hit; rw [HSS.out] at y2; clear ho hgw hat
          refine hK.out _ _ (by (try dsimp only); (first | (go_keep; done) | (go_simp; done) | exact ⟨y0, y1, y2⟩ | exact ⟨x0, x1, x2⟩ | exact ⟨j0, j1, j2⟩)) (fun hHeld => ?_); clear hK K; try simp only [Act.put, List.setIfInBounds_toArray, List.set_cons_zero, List.set_cons_succ, List.getElem_toArray, List.getElem_cons_succ, List.getElem_cons_zero]
          refine wpAnyK_last (by kernel_rfl) rfl (fun K hK => ?_); go_simp
          refine hK.out _ _ ?_; clear hK K; try simp only [Act.put, List.setIfInBounds_toArray, List.set_cons_zero, List.set_cons_succ, List.getElem_toArray, List.getElem_cons_succ, List.getElem_cons_zero]
          refine wpAnyK_done (by kernel_rfl) ?_ _

          clear y0 y1 y2 x0 x1 x2 j0 j1 j2 k0 k3 hHeld
          go_wp2_with fail
          go_roundw
          case rel => exact ⟨i + 1, by omega, by go_num, HW9⟩
          case measure => simp [intOf]; omega
        · have hw1 : IntKind.i64.wrap ((i : Int) + 1) = (i : Int) + 1 := IntWalk.i64_in _ (by omega)
          have HSS := Kept.mk hs
          have HW6 : Kept (RpW w c gA k gD m w.heap.size i _ (wr.alloc (.cells #[.int .i64 4, .int .i64 c.conn, .int .i64 ((i : Int) + 1)] 58)).drew) := ⟨HR.out.new_ (dN ((Below.refl _ _).alloc (Nat.le_refl _) _) 1)⟩
          have HOK := Kept.mk HW6.out.own
          have HMS := Kept.mk ((reads_made wr #[.int .i64 4, .int .i64 c.conn, .int .i64 ((i : Int) + 1)] 58 3 1 rfl).drew)
          have HDS : Kept (w.heap.size ≤ (wr.alloc (.cells #[.int .i64 4, .int .i64 c.conn, .int .i64 ((i : Int) + 1)] 58)).drew.heap.size) := ⟨HW6.out.bel.size⟩
          have g1 : ∀ u ∈ (#[Value.int .i64 4, .int .i64 c.conn, .int .i64 ((i : Int) + 1)]).toList, u.oneCell' = true := (by intro u hu; simp at hu; rcases hu with rfl | rfl | rfl <;> rfl)
          have x0 : wr.drew.cell? ⟨w.heap.size, 0, none⟩ = some (.int .i64 c.conn) := k0
          have x1 : wr.drew.cell? ⟨w.heap.size, 3, none⟩ = some (.slice (some ⟨gD, 0, none⟩) c.n m) := k3
          have x2 : wr.drew.cell? ⟨gD, i, none⟩ = some (.int .i64 4) := s0
          have j0 : (wr.alloc (.cells #[.int .i64 4, .int .i64 c.conn, .int .i64 ((i : Int) + 1)] 58)).drew.cell? ⟨w.heap.size, 0, none⟩ = some (.int .i64 c.conn) := (World.cell?_alloc_lt wr _ _ kz).trans k0
          have j1 : (wr.alloc (.cells #[.int .i64 4, .int .i64 c.conn, .int .i64 ((i : Int) + 1)] 58)).drew.cell? ⟨w.heap.size, 3, none⟩ = some (.slice (some ⟨gD, 0, none⟩) c.n m) := (World.cell?_alloc_lt wr _ _ kz).trans k3
          have j2 : (wr.alloc (.cells #[.int .i64 4, .int .i64 c.conn, .int .i64 ((i : Int) + 1)] 58)).drew.cell? ⟨gD, i, none⟩ = some (.int .i64 4) := (World.cell?_alloc_lt wr _ _ zD).trans s0
          clear hs
          go_upto_region 6 with fail
          refine wp_region_K (S := (fun w' => w'.cell? ⟨w.heap.size, 0, none⟩ = some (.int .i64 c.conn) ∧ w'.cell? ⟨w.heap.size, 3, none⟩ = some (.slice (some ⟨gD, 0, none⟩) c.n m) ∧ w'.cell? ⟨gD, i, none⟩ = some (.int .i64 4))) (k := 13) (by kernel_rfl) (by (try dsimp only); (first | (go_keep; done) | (go_simp; done) | exact ⟨y0, y1, y2⟩ | exact ⟨x0, x1, x2⟩ | exact ⟨j0, j1, j2⟩)) (fun hHeld => ?_)
          refine wpAnyK_take (i := 0) (v := ?_) rfl (by kernel_rfl) (by kernel_rfl) (by kernel_rfl) (by kernel_rfl) (fun _ _ _ h => h) (Or.inl ⟨by rfl, ?_⟩) (by assumption) ?_; rotate_left; (intro w hSw; (try dsimp only at hSw); go_simp; try (with_reducible rfl)); try simp only [Act.put, List.setIfInBounds_toArray, List.set_cons_zero, List.set_cons_succ, List.getElem_toArray, List.getElem_cons_succ, List.getElem_cons_zero]
          refine wpAnyK_take (i := 1) (v := ?_) rfl (by kernel_rfl) (by kernel_rfl) (by kernel_rfl) (by kernel_rfl) (fun _ _ _ h => h) (Or.inl ⟨by rfl, ?_⟩) (by assumption) ?_; rotate_left; (intro w hSw; (try dsimp only at hSw); go_simp; try (with_reducible rfl)); try simp only [Act.put, List.setIfInBounds_toArray, List.set_cons_zero, List.set_cons_succ, List.getElem_toArray, List.getElem_cons_succ, List.getElem_cons_zero]
          refine wpAnyK_take (i := 2) (v := ?_) rfl (by kernel_rfl) (by kernel_rfl) (by kernel_rfl) (by kernel_rfl) (fun _ _ _ h => h) (Or.inl ⟨by rfl, ?_⟩) (by assumption) ?_; rotate_left; (intro w hSw; (try dsimp only at hSw); go_simp; try (with_reducible rfl)); try simp only [Act.put, List.setIfInBounds_toArray, List.set_cons_zero, List.set_cons_succ, List.getElem_toArray, List.getElem_cons_succ, List.getElem_cons_zero]
          refine wpAnyK_take (i := 3) (v := ?_) rfl (by kernel_rfl) (by kernel_rfl) (by kernel_rfl) (by kernel_rfl) (fun _ _ _ h => h) (Or.inl ⟨by rfl, ?_⟩) (by assumption) ?_; rotate_left; (intro w hSw; (try dsimp only at hSw); go_simp; try (with_reducible rfl)); try simp only [Act.put, List.setIfInBounds_toArray, List.set_cons_zero, List.set_cons_succ, List.getElem_toArray, List.getElem_cons_succ, List.getElem_cons_zero]
          refine wpAnyK_take (i := 4) (v := ?_) rfl (by kernel_rfl) (by kernel_rfl) (by kernel_rfl) (by kernel_rfl) (fun _ _ _ h => h) (Or.inl ⟨by rfl, ?_⟩) (by assumption) ?_; rotate_left; (intro w hSw; (try dsimp only at hSw); go_simp; try (with_reducible rfl)); try simp only [Act.put, List.setIfInBounds_toArray, List.set_cons_zero, List.set_cons_succ, List.getElem_toArray, List.getElem_cons_succ, List.getElem_cons_zero]
          refine wpAnyK_take (i := 5) (v := ?_) rfl (by kernel_rfl) (by kernel_rfl) (by kernel_rfl) (by kernel_rfl) (fun _ _ _ h => h) (Or.inl ⟨by rfl, ?_⟩) (by assumption) ?_; rotate_left; (intro w hSw; (try dsimp only at hSw); go_simp; try (with_reducible rfl)); try simp only [Act.put, List.setIfInBounds_toArray, List.set_cons_zero, List.set_cons_succ, List.getElem_toArray, List.getElem_cons_succ, List.getElem_cons_zero]
          refine wpAnyK_take (i := 6) (v := ?_) rfl (by kernel_rfl) (by kernel_rfl) (by kernel_rfl) (by kernel_rfl) (fun _ _ _ h => h) (Or.inl ⟨by rfl, ?_⟩) (by assumption) ?_; rotate_left; (intro w hSw; (try dsimp only at hSw); go_simp; try (with_reducible rfl)); try simp only [Act.put, List.setIfInBounds_toArray, List.set_cons_zero, List.set_cons_succ, List.getElem_toArray, List.getElem_cons_succ, List.getElem_cons_zero]
          refine wpAnyK_take (i := 7) (v := ?_) rfl (by kernel_rfl) (by kernel_rfl) (by kernel_rfl) (by kernel_rfl) (fun _ _ _ h => h) (Or.inl ⟨by rfl, ?_⟩) (by assumption) ?_; rotate_left; (intro w hSw; (try dsimp only at hSw); go_simp; try (with_reducible rfl)); try simp only [Act.put, List.setIfInBounds_toArray, List.set_cons_zero, List.set_cons_succ, List.getElem_toArray, List.getElem_cons_succ, List.getElem_cons_zero]
          refine wpAnyK_take (i := 8) (v := ?_) rfl (by kernel_rfl) (by kernel_rfl) (by kernel_rfl) (by kernel_rfl) (fun _ _ _ h => h) (Or.inl ⟨by rfl, ?_⟩) (by assumption) ?_; rotate_left; (intro w hSw; (try dsimp only at hSw); go_simp; try (with_reducible rfl)); try simp only [Act.put, List.setIfInBounds_toArray, List.set_cons_zero, List.set_cons_succ, List.getElem_toArray, List.getElem_cons_succ, List.getElem_cons_zero]
          refine wpAnyK_take (i := 9) (v := ?_) rfl (by kernel_rfl) (by kernel_rfl) (by kernel_rfl) (by kernel_rfl) (fun _ _ _ h => h) (Or.inl ⟨by rfl, ?_⟩) (by assumption) ?_; rotate_left; (intro w hSw; (try dsimp only at hSw); go_simp; try (with_reducible rfl)); try simp only [Act.put, List.setIfInBounds_toArray, List.set_cons_zero, List.set_cons_succ, List.getElem_toArray, List.getElem_cons_succ, List.getElem_cons_zero]
          refine wpAnyK_take (i := 10) (v := ?_) rfl (by kernel_rfl) (by kernel_rfl) (by kernel_rfl) (by kernel_rfl) (fun _ _ _ h => h) (Or.inl ⟨by rfl, ?_⟩) (by assumption) ?_; rotate_left; (intro w hSw; (try dsimp only at hSw); go_simp; try (with_reducible rfl)); try simp only [Act.put, List.setIfInBounds_toArray, List.set_cons_zero, List.set_cons_succ, List.getElem_toArray, List.getElem_cons_succ, List.getElem_cons_zero]
          refine wpAnyK_one (i := 11) (by kernel_rfl) rfl (fun K hK => ?_); go_simp
          refine hK.out _ _ (by (try dsimp only); (first | (go_keep; done) | (go_simp; done) | exact ⟨y0, y1, y2⟩ | exact ⟨x0, x1, x2⟩ | exact ⟨j0, j1, j2⟩)) (fun hHeld => ?_); clear hK K; try simp only [Act.put, List.setIfInBounds_toArray, List.set_cons_zero, List.set_cons_succ, List.getElem_toArray, List.getElem_cons_succ, List.getElem_cons_zero]
          refine wpAnyK_one (i := 12) (by kernel_rfl) rfl (fun K hK => ?_)
          refine step_append_any _ rfl (.tmp 26) (.tmp 37) 53 rfl w.heap.size 58 i0 _ 3 24 Try.underlying53 hi0 hz0 hz1 hz2 rfl (by omega) _ (repN c i).length _ rfl HOK.out _ _ 1 1 _ rfl HMS.out g1 (by unfold maxLen; omega) (by omega) HDS.out ?_; intro v' w5 ho hgw hat; have HW9 := Kept.mk (HW6.out.app hgw ho HQ.out); have y0 := HW9.out.bx.cell 0 (v := .int .i64 c.conn) rfl; have y1 := HW9.out.bx.cell 3 (v := .slice (some ⟨gD, 0, none⟩) c.n m) rfl; have y2 := HW9.out.vv.cD hit; rw [HSS.out] at y2; clear ho hgw hat
          refine hK.out _ _ (by (try dsimp only); (first | (go_keep; done) | (go_simp; done) | exact ⟨y0, y1, y2⟩ | exact ⟨x0, x1, x2⟩ | exact ⟨j0, j1, j2⟩)) (fun hHeld => ?_); clear hK K; try simp only [Act.put, List.setIfInBounds_toArray, List.set_cons_zero, List.set_cons_succ, List.getElem_toArray, List.getElem_cons_succ, List.getElem_cons_zero]
          refine wpAnyK_last (by kernel_rfl) rfl (fun K hK => ?_); go_simp
          refine hK.out _ _ ?_; clear hK K; try simp only [Act.put, List.setIfInBounds_toArray, List.set_cons_zero, List.set_cons_succ, List.getElem_toArray, List.getElem_cons_succ, List.getElem_cons_zero]
          refine wpAnyK_done (by kernel_rfl) ?_ _

          clear y0 y1 y2 x0 x1 x2 j0 j1 j2 k0 k3 hHeld
          go_wp2_with fail
          go_roundw
          case rel => exact ⟨i + 1, by omega, by go_num, HW9⟩
          case measure => simp [intOf]; omega
      · have q1 : (s == 1) = false := by simp; exact fun e => hh (.inl e)
        have q4 : (s == 4) = false := by simp; exact fun e => hh (.inr e)
        have HQ : Kept (repI c i = []) := ⟨by rw [HI.out, if_neg hh]⟩
        clear hh hs
        go_wp2_with fail
        go_roundw
        case rel => exact ⟨i + 1, by omega, by go_num, ⟨HR.out.none HQ.out⟩⟩
        case measure => simp [intOf]; omega
    · obtain rfl : i = c.n := by omega
      go_wp2_with fail
      go_ret
      exact ⟨_, rfl, HR.out.own, HR.out.bel⟩
end
end Go.Proofs.Ytnmgnggchgckoaa
