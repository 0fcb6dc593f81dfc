/- Hello: Receive. -/
import Derived.Test.YtkbnacboianjkaaWalks
namespace Go.Proofs.Ytkbnacboianjkaa
set_option linter.unusedVariables false
set_option linter.unusedSimpArgs false
open Go.RowKit
theorem list_set6 {α : Type} (a0 a1 a2 a3 a4 a5 : α) : ∀ (k : Nat) (l : List α), k + 6 ≤ l.length → ((((((l.set k a0).set (k + 1) a1).set (k + 2) a2).set (k + 3) a3).set (k + 4) a4).set (k + 5) a5) = l.take k ++ [a0, a1, a2, a3, a4, a5] ++ l.drop (k + 6)
  | 0, x0 :: x1 :: x2 :: x3 :: x4 :: x5 :: r, _ => by simp
  | k + 1, x :: l, h => by
    have := list_set6 a0 a1 a2 a3 a4 a5 k l (by simpa using h)
    simp only [Nat.add_right_comm k 1, List.set_cons_succ, List.take_succ_cons, List.drop_succ_cons, List.cons_append]
    rw [this]
  | 0, [], h => by simp at h
  | 0, [_], h => by simp at h
  | 0, [_, _], h => by simp at h
  | 0, [_, _, _], h => by simp at h
  | 0, [_, _, _, _], h => by simp at h
  | 0, [_, _, _, _, _], h => by simp at h
  | k + 1, [], h => by simp at h
theorem flat_put {ps : List Pt} {i : Nat} (h : i < ps.length) (p : Pt) :
    (((((((flat ps).toArray.setIfInBounds (i * 6) (.int .i64 p.state)).setIfInBounds (i * 6 + 1) (.int .i64 p.last.node)).setIfInBounds (i * 6 + 2) (.int .i64 p.last.inc)).setIfInBounds (i * 6 + 3) (.int .i64 p.last.port)).setIfInBounds (i * 6 + 4) (.int .i64 p.last.heard)).setIfInBounds (i * 6 + 5) (.int .i64 p.since)) = (flat (ps.set i p)).toArray := by
  rw [flat_set h]
  simp only [List.setIfInBounds_toArray]
  rw [list_set6 _ _ _ _ _ _ (i * 6) (flat ps) (by rw [flat_len]; omega)]
  rfl
theorem Table.put {w : World} {b g : Nat} {t : Tb} (h : Table w b g t) {i : Nat} (hi : i < t.ports.length) (p : Pt) :
    Table ((((((w.setCell ⟨g, i * 6, none⟩ (.int .i64 p.state)).setCell ⟨g, i * 6 + 1, none⟩ (.int .i64 p.last.node)).setCell ⟨g, i * 6 + 2, none⟩ (.int .i64 p.last.inc)).setCell ⟨g, i * 6 + 3, none⟩ (.int .i64 p.last.port)).setCell ⟨g, i * 6 + 4, none⟩ (.int .i64 p.last.heard)).setCell ⟨g, i * 6 + 5, none⟩ (.int .i64 p.since)) b g { t with ports := t.ports.set i p } :=
  ⟨by have := (((((h.tab.far h.ne (.int .i64 p.state) (p := ⟨g, i * 6, none⟩)).far h.ne (.int .i64 p.last.node) (p := ⟨g, i * 6 + 1, none⟩)).far h.ne (.int .i64 p.last.inc) (p := ⟨g, i * 6 + 2, none⟩)).far h.ne (.int .i64 p.last.port) (p := ⟨g, i * 6 + 3, none⟩)).far h.ne (.int .i64 p.last.heard) (p := ⟨g, i * 6 + 4, none⟩)).far h.ne (.int .i64 p.since) (p := ⟨g, i * 6 + 5, none⟩)
      simpa [tcells] using this,
    by rw [← flat_put hi p]; exact (((((h.row.set_ _ _).set_ _ _).set_ _ _).set_ _ _).set_ _ _).set_ _ _,
    by simpa using h.pos, by simpa using h.few⟩
theorem Table.ver {w : World} {b g : Nat} {t : Tb} (h : Table w b g t) (v : Int) : Table (w.setCell ⟨b, 5, none⟩ (.int .i64 v)) b g { t with version := v } :=
  ⟨h.tab.to 5 _ rfl, h.row.far (Ne.symm h.ne) _, h.pos, h.few⟩
abbrev Own (b g : Nat) (k : Nat) : Prop := k = b ∨ k = g
set_option maxRecDepth 100000 in
theorem recvNo_c (t : Tb) (port : Int) (m : Msg) (w : World) (b g : Nat) (h : Table w b g t) (hv : ¬ (0 ≤ port ∧ port.toNat < t.ports.length ∧ msgB m = true)) :
    Calls Try.prog 17 #[.pointer (some ⟨b, 0, none⟩), .int .i64 port, .agg #[.int .i64 m.node, .int .i64 m.inc, .int .i64 m.port, .int .i64 m.heard]] w fun e w' => e = .returned (.int .i64 2) ∧ Below w.heap.size w w' := by
  obtain ⟨h0, h1, h2, h3, h4, h5, h6⟩ := h.all
  have hlt := h.tab.lt
  have hn := h.few
  by_cases hp : 0 ≤ port
  · obtain ⟨i, rfl⟩ := Int.eq_ofNat_of_zero_le hp
    by_cases hi : i < t.ports.length
    · have hm : msgB m = false := by
        cases hm : msgB m with
        | false => rfl
        | true => exact absurd ⟨hp, by simpa using hi, hm⟩ hv
      clear h hv
      go_enter Try.func17, Try.ntmps17
      go_wp2_with (go_at_call 25; refine (msg_c m _).mono ?_; rintro e w1 ⟨rfl, hb⟩)
      go_ret
      exact ⟨rfl, join (w := w) (by go_grown) hb⟩
    · clear h hv
      go_enter Try.func17, Try.ntmps17
      go_wp2_with fail
      go_ret
      exact ⟨rfl, by go_grown⟩
  · clear h hv
    go_enter Try.func17, Try.ntmps17
    go_wp2_with fail
    go_ret
    exact ⟨rfl, by go_grown⟩
set_option maxRecDepth 100000 in
theorem recvStale_c (t : Tb) (i : Nat) (m : Msg) (w : World) (b g : Nat) (p : Pt) (h : Table w b g t) (hi : i < t.ports.length) (hp : t.ports[i]? = some p) (hm : msgB m = true) (q1 : (m.node == p.last.node) = true) (q2 : m.inc < p.last.inc) :
    Calls Try.prog 17 #[.pointer (some ⟨b, 0, none⟩), .int .i64 (i : Int), .agg #[.int .i64 m.node, .int .i64 m.inc, .int .i64 m.port, .int .i64 m.heard]] w fun e w' => e = .returned (.int .i64 17) ∧ Below w.heap.size w w' := by
  obtain ⟨h0, h1, h2, h3, h4, h5, h6⟩ := h.all
  have hlt := h.tab.lt
  have hlt2 := h.row.lt
  have hn := h.few
  have hne := h.ne
  have hii : ((i : Nat) : Int) < (t.ports.length : Int) := by omega
  have hii0 : (0 : Int) ≤ (i : Int) := by omega
  obtain ⟨p0, p1, p2, p3, p4, p5⟩ := h.at_ hp
  have H := hid h
  have HP := hid hp
  clear h hp
  go_enter Try.func17, Try.ntmps17
  go_wp2_with fail
  refine (msg_c m _).mono ?_
  rintro e w1 ⟨rfl, hb⟩
  rw [hm]
  have hw1 : w.heap.size < w1.heap.size := by have := hb.size; simp at this; omega
  have hM := (Blk.new w 39 #[.int .i64 m.node, .int .i64 m.inc, .int .i64 m.port, .int .i64 m.heard]).new_ hb
  have m0 := hM.cell 0 (v := .int .i64 m.node) rfl
  have m1 := hM.cell 1 (v := .int .i64 m.inc) rfl
  have m2 := hM.cell 2 (v := .int .i64 m.port) rfl
  have m3 := hM.cell 3 (v := .int .i64 m.heard) rfl
  have HT := hid ((H.out.alloc (.cells #[.int .i64 m.node, .int .i64 m.inc, .int .i64 m.port, .int .i64 m.heard] 39)).new_ hb)
  have HB := hid (join (w := w) (by go_grown) hb)
  clear p0 p1 p2 p3 p4 p5 h0 h1 h2 h3 h4 h5 h6 hb
  obtain ⟨h0, h1, h2, h3, h4, h5, h6⟩ := HT.out.all
  obtain ⟨p0, p1, p2, p3, p4, p5⟩ := HT.out.at_ HP.out
  go_wp2_with fail
  go_quiet (fail)
  go_wp2_with fail
  go_ret
  exact ⟨rfl, dN HB.out _⟩
theorem bool_int (a b : Int) : ((a == b) = true ∧ (a != b) = false) ∨ ((a == b) = false ∧ (a != b) = true) := by
  by_cases h : a = b <;> simp [h]
set_option maxRecDepth 100000 in
set_option maxHeartbeats 2000000 in
theorem recvYes_c (t : Tb) (i : Nat) (m : Msg) (w : World) (b g : Nat) (p : Pt) (h : Table w b g t) (hi : i < t.ports.length) (hp : t.ports[i]? = some p) (hm : msgB m = true) (hv0 : 0 ≤ t.version) (hv1 : t.version < 4611686018427387904) (hst : stale p m = false) :
    Calls Try.prog 17 #[.pointer (some ⟨b, 0, none⟩), .int .i64 (i : Int), .agg #[.int .i64 m.node, .int .i64 m.inc, .int .i64 m.port, .int .i64 m.heard]] w fun e w' => e = .returned (.int .i64 0) ∧ Table w' b g (recvAt t i p m) ∧ OnlyP (Own b g) w w' := by
  obtain ⟨h0, h1, h2, h3, h4, h5, h6⟩ := h.all
  have hlt := h.tab.lt
  have hlt2 := h.row.lt
  have hn := h.few
  have hne := h.ne
  have hii : ((i : Nat) : Int) < (t.ports.length : Int) := by omega
  have hii0 : (0 : Int) ≤ (i : Int) := by omega
  obtain ⟨p0, p1, p2, p3, p4, p5⟩ := h.at_ hp
  have H := hid h
  have HP := hid hp
  clear h hp
  have hst' : (m.node == p.last.node) = false ∨ (m.node == p.last.node) = true ∧ ¬ m.inc < p.last.inc := by
    cases hq : (m.node == p.last.node) with
    | false => exact .inl rfl
    | true => exact .inr ⟨rfl, by simpa [stale, hq] using hst⟩
  clear hst
  have n1 : w.heap.size ≠ b := by omega
  have n2 : w.heap.size ≠ g := by omega
  have n3 : b ≠ w.heap.size := by omega
  have n4 : g ≠ w.heap.size := by omega
  have n5 : g ≠ b := by omega
  go_enter Try.func17, Try.ntmps17
  go_wp2_with fail
  refine (msg_c m _).mono ?_
  rintro e w1 ⟨rfl, hb⟩
  rw [hm]
  have hw1 : w.heap.size < w1.heap.size := by have := hb.size; simp at this; omega
  have hM := (Blk.new w 39 #[.int .i64 m.node, .int .i64 m.inc, .int .i64 m.port, .int .i64 m.heard]).new_ hb
  have m0 := hM.cell 0 (v := .int .i64 m.node) rfl
  have m1 := hM.cell 1 (v := .int .i64 m.inc) rfl
  have m2 := hM.cell 2 (v := .int .i64 m.port) rfl
  have m3 := hM.cell 3 (v := .int .i64 m.heard) rfl
  have HT := hid ((H.out.alloc (.cells #[.int .i64 m.node, .int .i64 m.inc, .int .i64 m.port, .int .i64 m.heard] 39)).new_ hb)
  have HB := hid (join (w := w) (by go_grown) hb)
  clear p0 p1 p2 p3 p4 p5 h0 h1 h2 h3 h4 h5 h6 hb
  obtain ⟨h0, h1, h2, h3, h4, h5, h6⟩ := HT.out.all
  obtain ⟨p0, p1, p2, p3, p4, p5⟩ := HT.out.at_ HP.out
  go_wp2_with fail
  go_cut [51] (fun s51 wx => s51 = .bool false ∧ ∃ n, wx = w1.drewN n)
  case first =>
    rcases hst' with q1 | ⟨q1, q2⟩
    all_goals
      go_quiet (fail)
      go_wp2_with fail
      go_meet
      exact ⟨by first | rfl | rw [decide_eq_false (by omega)], _, rfl⟩
  case rest =>
   obtain ⟨rfl, n, rfl⟩ := hcut
   go_upto_region 9 with fail
   go_quiet (fail)
   go_upto_if 58 with fail
   go_cut [8] (fun s8 wx => s8 = .int .i64 (stateOf t m) ∧ ∃ n, wx = w1.drewN n)
   case first =>
     rcases bool_int m.heard t.inc with ⟨s1, s2⟩ | ⟨s1, s2⟩
     · have E := hid (show stateOf t m = 2 by simp [stateOf, show m.heard = t.inc by simpa using s1])
       go_wp2_with fail
       go_meet
       exact ⟨by rw [E.out], n + nq, by rw [World.drewN_drewN]⟩
     · have E := hid (show stateOf t m = 1 by simp [stateOf, show ¬ m.heard = t.inc by simpa using s1])
       go_wp2_with fail
       go_meet
       exact ⟨by rw [E.out], n + nq, by rw [World.drewN_drewN]⟩
   case rest =>
    obtain ⟨rfl, n, rfl⟩ := hcut
    go_upto_region 11 with fail
    go_cut [9] (fun s9 wx => s9 = .bool (sameB p m) ∧ ∃ n, wx = w1.drewN n)
    case first =>
      rcases bool_int m.node p.last.node with ⟨s1, s2⟩ | ⟨s1, s2⟩
      · rcases bool_int m.inc p.last.inc with ⟨s3, s4⟩ | ⟨s3, s4⟩
        · have E := hid (show sameB p m = (m.port == p.last.port) by simp only [sameB, s1, s3, Bool.true_and])
          rcases bool_int m.port p.last.port with ⟨s5, s6⟩ | ⟨s5, s6⟩
          all_goals
            go_quiet (fail)
            go_wp2_with fail
            go_meet
            exact ⟨by rw [E.out, s5], n + nq, by rw [World.drewN_drewN]⟩
        · have E := hid (show sameB p m = false by simp only [sameB, s1, s3, Bool.true_and, Bool.and_false, Bool.false_and])
          go_quiet (fail)
          go_wp2_with fail
          go_meet
          exact ⟨by rw [E.out], n + nq, by rw [World.drewN_drewN]⟩
      · have E := hid (show sameB p m = false by simp only [sameB, s1, Bool.false_and])
        go_quiet (fail)
        go_wp2_with fail
        go_meet
        exact ⟨by rw [E.out], n + nq, by rw [World.drewN_drewN]⟩
    case rest =>
      obtain ⟨rfl, n', rfl⟩ := hcut
      go_upto_region 12 with fail
      have hT := HT.out.drewN n'
      have hM' := hM.drewN n'
      have HB' := hid (dN HB.out n')
      have ht : turns t p m = (stateOf t m != p.state || !sameB p m) := rfl
      have hsm := sameB p m
      generalize w1.drewN n' = w2 at *
      go_cut [9, 96] (fun s9 s96 wx => s9 = .bool (sameB p m) ∧ s96 = .bool (turns t p m) ∧ wx = w2)
      case first =>
        obtain ⟨p0, p1, p2, p3, p4, p5⟩ := hT.at_ HP.out
        clear hT hM'
        rcases bool_int (stateOf t m) p.state with ⟨s1, s2⟩ | ⟨s1, s2⟩
        · cases hs : sameB p m with
          | true =>
            have E := hid (show turns t p m = false by rw [ht, s2, hs]; rfl)
            clear ht
            generalize stateOf t m = st at *
            go_wp2_with fail
            go_meet
            exact ⟨by rw [hs], by rw [E.out], rfl⟩
          | false =>
            have E := hid (show turns t p m = true by rw [ht, s2, hs]; rfl)
            clear ht
            generalize stateOf t m = st at *
            go_wp2_with fail
            go_meet
            exact ⟨by rw [hs], by rw [E.out], rfl⟩
        · have E := hid (show turns t p m = true by rw [ht, s2]; rfl)
          clear ht
          generalize stateOf t m = st at *
          go_wp2_with fail
          go_meet
          exact ⟨rfl, by rw [E.out], rfl⟩
      case rest =>
       obtain ⟨rfl, rfl, rfl⟩ := hcut
       clear ht
       go_upto_if 96 with fail
       go_cut [] (fun wx => Table wx b g { t with version := t.version + (if turns t p m then 1 else 0) } ∧ Blk wx w.heap.size 39 #[.int .i64 m.node, .int .i64 m.inc, .int .i64 m.port, .int .i64 m.heard] ∧ OnlyP (Own b g) w wx)
       case first =>
        obtain ⟨h0, h1, h2, h3, h4, h5, h6⟩ := hT.all
        have fv := hT.tab.free 5
        have hTv := fun v => hid (hT.ver v)
        have HT2 := hid hT
        have HM2 := hid hM'
        clear hT hM'
        cases hs : turns t p m with
        | true =>
          go_wp2_with fail
          go_meet
          exact ⟨by rw [if_pos hs]; exact (hTv _).out, HM2.out.far n1 _, (OnlyP.of_below HB'.out _).set (.inl (.inl rfl)) _⟩
        | false =>
          go_wp2_with fail
          go_meet
          exact ⟨by rw [if_neg (by rw [hs]; decide), Int.add_zero]; exact HT2.out, HM2.out, OnlyP.of_below HB'.out _⟩
       case rest =>
        obtain ⟨hT3, hM3, hO3⟩ := hcut
        obtain ⟨h0, h1, h2, h3, h4, h5, h6⟩ := hT3.all
        obtain ⟨p0, p1, p2, p3, p4, p5⟩ := hT3.at_ HP.out
        have m0 := hM3.cell 0 (v := .int .i64 m.node) rfl
        have m1 := hM3.cell 1 (v := .int .i64 m.inc) rfl
        have m2 := hM3.cell 2 (v := .int .i64 m.port) rfl
        have m3 := hM3.cell 3 (v := .int .i64 m.heard) rfl
        have f0 := hT3.row.free (i * 6)
        have f1 := hT3.row.free (i * 6 + 1)
        have f2 := hT3.row.free (i * 6 + 2)
        have f3 := hT3.row.free (i * 6 + 3)
        have f4 := hT3.row.free (i * 6 + 4)
        have f5 := hT3.row.free (i * 6 + 5)
        have T4 := hid (hT3.put hi ⟨stateOf t m, m, t.ticks⟩)
        have HO3 := hid hO3
        clear hT3 hM3 hO3 hT hM' hsm
        go_wp2_with fail
        refine wp_region_held_drew (S := (fun w' => w'.cell? ⟨w.heap.size, 0, none⟩ = some (.int .i64 m.node) ∧ w'.cell? ⟨w.heap.size, 1, none⟩ = some (.int .i64 m.inc) ∧ w'.cell? ⟨w.heap.size, 2, none⟩ = some (.int .i64 m.port) ∧ w'.cell? ⟨w.heap.size, 3, none⟩ = some (.int .i64 m.heard) ∧ w'.cell? ⟨b, 4, none⟩ = some (.int .i64 t.ticks))) (by kernel_rfl) (by (try dsimp only); (first | (go_keep; done) | (go_simp; done) | (simp [World.cell?_setCell_other, *]; done))) (fun hHeld => ?_)
        refine wpAnyH_take (i := 0) (v := ?_) rfl (by kernel_rfl) (by kernel_rfl) (by kernel_rfl) (fun _ _ _ h => h) (Or.inl ⟨by rfl, ?_⟩) (by assumption) ?_; rotate_left; (intro w hSw; (try dsimp only at hSw); go_simp; try (with_reducible rfl)); try simp only [Act.put, List.setIfInBounds_toArray, List.set_cons_zero, List.set_cons_succ, List.getElem_toArray, List.getElem_cons_succ, List.getElem_cons_zero]
        refine wpAnyH_take (i := 1) (v := ?_) rfl (by kernel_rfl) (by kernel_rfl) (by kernel_rfl) (fun _ _ _ h => h) (Or.inl ⟨by rfl, ?_⟩) (by assumption) ?_; rotate_left; (intro w hSw; (try dsimp only at hSw); go_simp; try (with_reducible rfl)); try simp only [Act.put, List.setIfInBounds_toArray, List.set_cons_zero, List.set_cons_succ, List.getElem_toArray, List.getElem_cons_succ, List.getElem_cons_zero]
        refine wpAnyH_take (i := 2) (v := ?_) rfl (by kernel_rfl) (by kernel_rfl) (by kernel_rfl) (fun _ _ _ h => h) (Or.inl ⟨by rfl, ?_⟩) (by assumption) ?_; rotate_left; (intro w hSw; (try dsimp only at hSw); go_simp; try (with_reducible rfl)); try simp only [Act.put, List.setIfInBounds_toArray, List.set_cons_zero, List.set_cons_succ, List.getElem_toArray, List.getElem_cons_succ, List.getElem_cons_zero]
        refine wpAnyH_take (i := 3) (v := ?_) rfl (by kernel_rfl) (by kernel_rfl) (by kernel_rfl) (fun _ _ _ h => h) (Or.inl ⟨by rfl, ?_⟩) (by assumption) ?_; rotate_left; (intro w hSw; (try dsimp only at hSw); go_simp; try (with_reducible rfl)); try simp only [Act.put, List.setIfInBounds_toArray, List.set_cons_zero, List.set_cons_succ, List.getElem_toArray, List.getElem_cons_succ, List.getElem_cons_zero]
        refine wpAnyH_take (i := 4) (v := ?_) rfl (by kernel_rfl) (by kernel_rfl) (by kernel_rfl) (fun _ _ _ h => h) (Or.inl ⟨by rfl, ?_⟩) (by assumption) ?_; rotate_left; (intro w hSw; (try dsimp only at hSw); go_simp; try (with_reducible rfl)); try simp only [Act.put, List.setIfInBounds_toArray, List.set_cons_zero, List.set_cons_succ, List.getElem_toArray, List.getElem_cons_succ, List.getElem_cons_zero]
        refine wpAnyH_take (i := 5) (v := ?_) rfl (by kernel_rfl) (by kernel_rfl) (by kernel_rfl) (fun _ _ _ h => h) (Or.inl ⟨by rfl, ?_⟩) (by assumption) ?_; rotate_left; (intro w hSw; (try dsimp only at hSw); go_simp; try (with_reducible rfl)); try simp only [Act.put, List.setIfInBounds_toArray, List.set_cons_zero, List.set_cons_succ, List.getElem_toArray, List.getElem_cons_succ, List.getElem_cons_zero]
        refine wpAnyH_take (i := 6) (v := ?_) rfl (by kernel_rfl) (by kernel_rfl) (by kernel_rfl) (fun _ _ _ h => h) (Or.inl ⟨by rfl, ?_⟩) (by assumption) ?_; rotate_left; (intro w hSw; (try dsimp only at hSw); go_simp; try (with_reducible rfl)); try simp only [Act.put, List.setIfInBounds_toArray, List.set_cons_zero, List.set_cons_succ, List.getElem_toArray, List.getElem_cons_succ, List.getElem_cons_zero]
        refine wpAnyH_take (i := 7) (v := ?_) rfl (by kernel_rfl) (by kernel_rfl) (by kernel_rfl) (fun _ _ _ h => h) (Or.inl ⟨by rfl, ?_⟩) (by assumption) ?_; rotate_left; (intro w hSw; (try dsimp only at hSw); go_simp; try (with_reducible rfl)); try simp only [Act.put, List.setIfInBounds_toArray, List.set_cons_zero, List.set_cons_succ, List.getElem_toArray, List.getElem_cons_succ, List.getElem_cons_zero]
        refine wpAnyH_take (i := 8) (v := ?_) rfl (by kernel_rfl) (by kernel_rfl) (by kernel_rfl) (fun _ _ _ h => h) (Or.inl ⟨by rfl, ?_⟩) (by assumption) ?_; rotate_left; (intro w hSw; (try dsimp only at hSw); go_simp; try (with_reducible rfl)); try simp only [Act.put, List.setIfInBounds_toArray, List.set_cons_zero, List.set_cons_succ, List.getElem_toArray, List.getElem_cons_succ, List.getElem_cons_zero]
        refine wpAnyH_take (i := 9) (v := ?_) rfl (by kernel_rfl) (by kernel_rfl) (by kernel_rfl) (fun _ _ _ h => h) (Or.inl ⟨by rfl, ?_⟩) (by assumption) ?_; rotate_left; (intro w hSw; (try dsimp only at hSw); go_simp; try (with_reducible rfl)); try simp only [Act.put, List.setIfInBounds_toArray, List.set_cons_zero, List.set_cons_succ, List.getElem_toArray, List.getElem_cons_succ, List.getElem_cons_zero]
        refine wpAnyH_take (i := 10) (v := ?_) rfl (by kernel_rfl) (by kernel_rfl) (by kernel_rfl) (fun _ _ _ h => h) (Or.inl ⟨by rfl, ?_⟩) (by assumption) ?_; rotate_left; (intro w hSw; (try dsimp only at hSw); go_simp; try (with_reducible rfl)); try simp only [Act.put, List.setIfInBounds_toArray, List.set_cons_zero, List.set_cons_succ, List.getElem_toArray, List.getElem_cons_succ, List.getElem_cons_zero]
        refine wpAnyH_ready (rs := [11]) (by kernel_rfl) (by simp) ?_; refine AllReadyH.cons rfl (fun K hK => ?_) AllReadyH.nil; go_simp
        refine hK.out _ _ (by (try dsimp only); (first | (go_keep; done) | (go_simp; done) | (simp [World.cell?_setCell_other, *]; done))) (fun hHeld => ?_); clear hK K; try simp only [Act.put, List.setIfInBounds_toArray, List.set_cons_zero, List.set_cons_succ, List.getElem_toArray, List.getElem_cons_succ, List.getElem_cons_zero]
        refine wpAnyH_take (i := 12) (v := ?_) rfl (by kernel_rfl) (by kernel_rfl) (by kernel_rfl) (fun _ _ _ h => h) (Or.inl ⟨by rfl, ?_⟩) (by assumption) ?_; rotate_left; (intro w hSw; (try dsimp only at hSw); go_simp; try (with_reducible rfl)); try simp only [Act.put, List.setIfInBounds_toArray, List.set_cons_zero, List.set_cons_succ, List.getElem_toArray, List.getElem_cons_succ, List.getElem_cons_zero]
        refine wpAnyH_take (i := 13) (v := ?_) rfl (by kernel_rfl) (by kernel_rfl) (by kernel_rfl) (fun _ _ _ h => h) (Or.inl ⟨by rfl, ?_⟩) (by assumption) ?_; rotate_left; (intro w hSw; (try dsimp only at hSw); go_simp; try (with_reducible rfl)); try simp only [Act.put, List.setIfInBounds_toArray, List.set_cons_zero, List.set_cons_succ, List.getElem_toArray, List.getElem_cons_succ, List.getElem_cons_zero]
        refine wpAnyH_ready (rs := [14]) (by kernel_rfl) (by simp) ?_; refine AllReadyH.cons rfl (fun K hK => ?_) AllReadyH.nil; go_simp
        refine hK.out _ _ (by (try dsimp only); (first | (go_keep; done) | (go_simp; done) | (simp [World.cell?_setCell_other, *]; done))) (fun hHeld => ?_); clear hK K; try simp only [Act.put, List.setIfInBounds_toArray, List.set_cons_zero, List.set_cons_succ, List.getElem_toArray, List.getElem_cons_succ, List.getElem_cons_zero]
        refine wpAnyH_take (i := 15) (v := ?_) rfl (by kernel_rfl) (by kernel_rfl) (by kernel_rfl) (fun _ _ _ h => h) (Or.inl ⟨by rfl, ?_⟩) (by assumption) ?_; rotate_left; (intro w hSw; (try dsimp only at hSw); go_simp; try (with_reducible rfl)); try simp only [Act.put, List.setIfInBounds_toArray, List.set_cons_zero, List.set_cons_succ, List.getElem_toArray, List.getElem_cons_succ, List.getElem_cons_zero]
        refine wpAnyH_take (i := 16) (v := ?_) rfl (by kernel_rfl) (by kernel_rfl) (by kernel_rfl) (fun _ _ _ h => h) (Or.inl ⟨by rfl, ?_⟩) (by assumption) ?_; rotate_left; (intro w hSw; (try dsimp only at hSw); go_simp; try (with_reducible rfl)); try simp only [Act.put, List.setIfInBounds_toArray, List.set_cons_zero, List.set_cons_succ, List.getElem_toArray, List.getElem_cons_succ, List.getElem_cons_zero]
        refine wpAnyH_ready (rs := [17]) (by kernel_rfl) (by simp) ?_; refine AllReadyH.cons rfl (fun K hK => ?_) AllReadyH.nil; go_simp
        refine hK.out _ _ (by (try dsimp only); (first | (go_keep; done) | (go_simp; done) | (simp [World.cell?_setCell_other, *]; done))) (fun hHeld => ?_); clear hK K; try simp only [Act.put, List.setIfInBounds_toArray, List.set_cons_zero, List.set_cons_succ, List.getElem_toArray, List.getElem_cons_succ, List.getElem_cons_zero]
        refine wpAnyH_done (by kernel_rfl) ?_ _
        go_wp2_with fail
        go_ret
        refine ⟨rfl, ?_, ?_⟩
        · exact T4.out.drew
        · exact ((((((HO3.out.set (p := ⟨g, i * 6, none⟩) (.inl (.inr rfl)) _).set (p := ⟨g, i * 6 + 1, none⟩) (.inl (.inr rfl)) _).set (p := ⟨g, i * 6 + 2, none⟩) (.inl (.inr rfl)) _).set (p := ⟨g, i * 6 + 3, none⟩) (.inl (.inr rfl)) _).set (p := ⟨g, i * 6 + 4, none⟩) (.inl (.inr rfl)) _).set (p := ⟨g, i * 6 + 5, none⟩) (.inl (.inr rfl)) _).drew
/-- Receive, whatever comes. -/
theorem recv_c (t : Tb) (port : Int) (m : Msg) (w : World) (b g : Nat) (h : Table w b g t) (hv0 : 0 ≤ t.version) (hv1 : t.version < 4611686018427387904) :
    Calls Try.prog 17 #[.pointer (some ⟨b, 0, none⟩), .int .i64 port, .agg #[.int .i64 m.node, .int .i64 m.inc, .int .i64 m.port, .int .i64 m.heard]] w fun e w' => e = .returned (.int .i64 (recvE t port m)) ∧ Table w' b g (recv t port m) ∧ OnlyP (Own b g) w w' := by
  by_cases hv : 0 ≤ port ∧ port.toNat < t.ports.length ∧ msgB m = true
  · obtain ⟨hp, hi, hm⟩ := hv
    obtain ⟨i, rfl⟩ := Int.eq_ofNat_of_zero_le hp
    have hi : i < t.ports.length := by simpa using hi
    have hs := getD_some hi
    have hE : recvE t (i : Int) m = if stale (t.ports.getD i pt0) m then 17 else 0 := by unfold recvE; rw [if_pos ⟨hp, by simpa using hi, hm⟩]; simp
    cases hst : stale (t.ports.getD i pt0) m with
    | true =>
      have hE' : recvE t (i : Int) m = 17 := by rw [hE, hst]; rfl
      have hst2 : (m.node == (t.ports.getD i pt0).last.node) = true ∧ m.inc < (t.ports.getD i pt0).last.inc := by simpa [stale] using hst
      refine (recvStale_c t i m w b g _ h hi hs hm hst2.1 hst2.2).mono ?_
      rintro e w' ⟨rfl, hb⟩
      refine ⟨by rw [hE'], ?_, OnlyP.of_below hb _⟩
      have : recv t (i : Int) m = t := by unfold recv; rw [hE', if_neg (by decide)]
      rw [this]; exact h.new_ hb
    | false =>
      have hE' : recvE t (i : Int) m = 0 := by rw [hE, hst]; rfl
      refine (recvYes_c t i m w b g _ h hi hs hm hv0 hv1 hst).mono ?_
      rintro e w' ⟨rfl, hT, hO⟩
      refine ⟨by rw [hE'], ?_, hO⟩
      have : recv t (i : Int) m = recvAt t i (t.ports.getD i pt0) m := by unfold recv; rw [hE', if_pos rfl]; simp
      rw [this]; exact hT
  · have hE : recvE t port m = 2 := by unfold recvE; rw [if_neg hv]
    refine (recvNo_c t port m w b g h hv).mono ?_
    rintro e w' ⟨rfl, hb⟩
    refine ⟨by rw [hE], ?_, OnlyP.of_below hb _⟩
    have : recv t port m = t := by unfold recv; rw [hE, if_neg (by decide)]
    rw [this]; exact h.new_ hb
theorem recvNil_c (port : Int) (m : Msg) (w : World) :
    Calls Try.prog 17 #[.pointer none, .int .i64 port, .agg #[.int .i64 m.node, .int .i64 m.inc, .int .i64 m.port, .int .i64 m.heard]] w fun e w' => e = .returned (.int .i64 1) ∧ Below w.heap.size w w' := by
  go_enter Try.func17, Try.ntmps17
  go_wp2_with fail
  go_ret
  exact ⟨rfl, by go_grown⟩
end Go.Proofs.Ytkbnacboianjkaa
