/- Setup: the walk of open, a state at a time. -/
import Derived.Test.YtnmgnggchgckoaaWalks
namespace Go.Proofs.Ytnmgnggchgckoaa
set_option linter.unusedVariables false
set_option linter.unusedSimpArgs false
open Go.RowKit
theorem boxA {w : World} {a b : Value} {ta tb : TypeId} : Blk ((w.alloc (.cells #[a] ta)).alloc (.cells #[b] tb)) w.heap.size ta #[a] := (Blk.new w ta #[a]).alloc _
theorem boxB {w : World} {a b : Value} {ta tb : TypeId} : Blk ((w.alloc (.cells #[a] ta)).alloc (.cells #[b] tb)) (w.heap.size + 1) tb #[b] := by
  have := Blk.new (w.alloc (.cells #[a] ta)) tb #[b]; simpa using this
theorem cellA {w : World} {a b : Value} {ta tb : TypeId} (n : Nat) : (((w.alloc (.cells #[a] ta)).alloc (.cells #[b] tb)).drewN n).cell? ⟨w.heap.size, 0, none⟩ = some a := (boxA.drewN n).cell 0 rfl
theorem cellB {w : World} {a b : Value} {ta tb : TypeId} (n : Nat) : (((w.alloc (.cells #[a] ta)).alloc (.cells #[b] tb)).drewN n).cell? ⟨w.heap.size + 1, 0, none⟩ = some b := (boxB.drewN n).cell 0 rfl
theorem cellA' {w : World} {a b : Value} {ta tb : TypeId} (n : Nat) {S o : Nat} {u : Value} (hS : S < w.heap.size) : ((((w.alloc (.cells #[a] ta)).alloc (.cells #[b] tb)).drewN n).setCell ⟨S, o, none⟩ u).cell? ⟨w.heap.size, 0, none⟩ = some a := ((boxA.drewN n).far (p := ⟨S, o, none⟩) (by show w.heap.size ≠ S; omega) u).cell 0 rfl
theorem cellB' {w : World} {a b : Value} {ta tb : TypeId} (n : Nat) {S o : Nat} {u : Value} (hS : S < w.heap.size) : ((((w.alloc (.cells #[a] ta)).alloc (.cells #[b] tb)).drewN n).setCell ⟨S, o, none⟩ u).cell? ⟨w.heap.size + 1, 0, none⟩ = some b := ((boxB.drewN n).far (p := ⟨S, o, none⟩) (by show w.heap.size + 1 ≠ S; omega) u).cell 0 rfl
theorem onlyA {w : World} {o1 o2 : Obj} {S : Nat → Prop} (n : Nat) : OnlyP S w (((w.alloc o1).alloc o2).drewN n) := (((OnlyP.refl _ _).alloc _).alloc _).drewN n
set_option maxHeartbeats 2000000 in
theorem open_s1 (c : Ch) (i : Nat) (w : World) (L : Loc) (h : IsCh w L c) (hi : i < c.n) (hs : c.st i = 1) :
    Calls Try.prog 34 #[.pointer (some ⟨L.p, 0, none⟩), .int .i64 i] w (Turns w L (openP c i).1 (openP c i).2) := by
  have cs := h.state hi
  rw [hs] at cs
  have c1 := h.tab.cell 1 (v := .int .i64 c.need) rfl
  have c2 := h.tab.cell 2 (v := .slice (some ⟨L.R, 0, none⟩) c.n L.k) rfl
  have c3 := h.tab.cell 3 (v := .slice (some ⟨L.S, 0, none⟩) c.n c.n) rfl
  have cr := h.rooms i hi
  have hr := h.ok.room i hi
  have hn1 := h.ok.need1
  have hn2 := h.ok.need2
  have fs := h.row.free i
  have hlt := h.tab.lt
  have hls := h.row.lt
  have hlr := h.rlt
  have hn := h.ok.n2
  have hkap := h.kap
  have hkm := h.kmax
  unfold maxLen at hkm
  have H := Kept.mk h
  have HI := Kept.mk hi
  clear h
  have HT : Kept (openP c i = (c, [])) := ⟨by unfold openP; rw [hs]; rfl⟩
  rw [HT.out]
  clear hs
  go_enter Try.func34, Try.ntmps34
  go_wp2_with fail
  go_quiet (fail)
  go_wp2_with fail
  go_ret
  exact turns_none (((H.out.alloc _).alloc _).drewN _) (onlyA _)
set_option maxHeartbeats 2000000 in
theorem open_s2 (c : Ch) (i : Nat) (w : World) (L : Loc) (h : IsCh w L c) (hi : i < c.n) (hs : c.st i = 2) :
    Calls Try.prog 34 #[.pointer (some ⟨L.p, 0, none⟩), .int .i64 i] w (Turns w L (openP c i).1 (openP c i).2) := by
  have cs := h.state hi
  rw [hs] at cs
  have c1 := h.tab.cell 1 (v := .int .i64 c.need) rfl
  have c2 := h.tab.cell 2 (v := .slice (some ⟨L.R, 0, none⟩) c.n L.k) rfl
  have c3 := h.tab.cell 3 (v := .slice (some ⟨L.S, 0, none⟩) c.n c.n) rfl
  have cr := h.rooms i hi
  have hr := h.ok.room i hi
  have hn1 := h.ok.need1
  have hn2 := h.ok.need2
  have fs := h.row.free i
  have hlt := h.tab.lt
  have hls := h.row.lt
  have hlr := h.rlt
  have hn := h.ok.n2
  have hkap := h.kap
  have hkm := h.kmax
  unfold maxLen at hkm
  have H := Kept.mk h
  have HI := Kept.mk hi
  clear h
  have HT : Kept (openP c i = (c, sendP c 2 ((i : Int) - 1))) := ⟨by unfold openP; rw [hs]; rfl⟩
  rw [HT.out]
  clear hs
  go_enter Try.func34, Try.ntmps34
  go_wp2_with fail
  go_quiet (fail)
  go_wp2_with fail
  refine (closure_open c i 2 _ L w.heap.size (w.heap.size + 1) (((H.out.alloc _).alloc _).drewN _) (cellA _) (cellB _) HI.out).mono ?_
  rintro e w' ⟨v, rfl, ho, hb⟩
  go_wp2_with fail
  go_ret
  exact turns_mk (((H.out.alloc _).alloc _).drewN _) (onlyA _) ⟨v, rfl, ho, hb⟩
set_option maxHeartbeats 2000000 in
theorem open_s3 (c : Ch) (i : Nat) (w : World) (L : Loc) (h : IsCh w L c) (hi : i < c.n) (hs : c.st i = 3) :
    Calls Try.prog 34 #[.pointer (some ⟨L.p, 0, none⟩), .int .i64 i] w (Turns w L (openP c i).1 (openP c i).2) := by
  have cs := h.state hi
  rw [hs] at cs
  have c1 := h.tab.cell 1 (v := .int .i64 c.need) rfl
  have c2 := h.tab.cell 2 (v := .slice (some ⟨L.R, 0, none⟩) c.n L.k) rfl
  have c3 := h.tab.cell 3 (v := .slice (some ⟨L.S, 0, none⟩) c.n c.n) rfl
  have cr := h.rooms i hi
  have hr := h.ok.room i hi
  have hn1 := h.ok.need1
  have hn2 := h.ok.need2
  have fs := h.row.free i
  have hlt := h.tab.lt
  have hls := h.row.lt
  have hlr := h.rlt
  have hn := h.ok.n2
  have hkap := h.kap
  have hkm := h.kmax
  unfold maxLen at hkm
  have H := Kept.mk h
  have HI := Kept.mk hi
  clear h
  have HT : Kept (openP c i = (c, sendP c 3 ((i : Int) - 1))) := ⟨by unfold openP; rw [hs]; rfl⟩
  rw [HT.out]
  clear hs
  go_enter Try.func34, Try.ntmps34
  go_wp2_with fail
  go_quiet (fail)
  go_wp2_with fail
  refine (closure_open c i 3 _ L w.heap.size (w.heap.size + 1) (((H.out.alloc _).alloc _).drewN _) (cellA _) (cellB _) HI.out).mono ?_
  rintro e w' ⟨v, rfl, ho, hb⟩
  go_wp2_with fail
  go_ret
  exact turns_mk (((H.out.alloc _).alloc _).drewN _) (onlyA _) ⟨v, rfl, ho, hb⟩
set_option maxHeartbeats 2000000 in
theorem open_s4 (c : Ch) (i : Nat) (w : World) (L : Loc) (h : IsCh w L c) (hi : i < c.n) (hs : c.st i = 4) :
    Calls Try.prog 34 #[.pointer (some ⟨L.p, 0, none⟩), .int .i64 i] w (Turns w L (openP c i).1 (openP c i).2) := by
  have cs := h.state hi
  rw [hs] at cs
  have c1 := h.tab.cell 1 (v := .int .i64 c.need) rfl
  have c2 := h.tab.cell 2 (v := .slice (some ⟨L.R, 0, none⟩) c.n L.k) rfl
  have c3 := h.tab.cell 3 (v := .slice (some ⟨L.S, 0, none⟩) c.n c.n) rfl
  have cr := h.rooms i hi
  have hr := h.ok.room i hi
  have hn1 := h.ok.need1
  have hn2 := h.ok.need2
  have fs := h.row.free i
  have hlt := h.tab.lt
  have hls := h.row.lt
  have hlr := h.rlt
  have hn := h.ok.n2
  have hkap := h.kap
  have hkm := h.kmax
  unfold maxLen at hkm
  have H := Kept.mk h
  have HI := Kept.mk hi
  clear h
  have HT : Kept (openP c i = (c, [])) := ⟨by unfold openP; rw [hs]; rfl⟩
  rw [HT.out]
  clear hs
  go_enter Try.func34, Try.ntmps34
  go_wp2_with fail
  go_quiet (fail)
  go_wp2_with fail
  go_ret
  exact turns_none (((H.out.alloc _).alloc _).drewN _) (onlyA _)
set_option maxHeartbeats 2000000 in
theorem open_s5 (c : Ch) (i : Nat) (w : World) (L : Loc) (h : IsCh w L c) (hi : i < c.n) (hs : c.st i = 5) :
    Calls Try.prog 34 #[.pointer (some ⟨L.p, 0, none⟩), .int .i64 i] w (Turns w L (openP c i).1 (openP c i).2) := by
  have cs := h.state hi
  rw [hs] at cs
  have c1 := h.tab.cell 1 (v := .int .i64 c.need) rfl
  have c2 := h.tab.cell 2 (v := .slice (some ⟨L.R, 0, none⟩) c.n L.k) rfl
  have c3 := h.tab.cell 3 (v := .slice (some ⟨L.S, 0, none⟩) c.n c.n) rfl
  have cr := h.rooms i hi
  have hr := h.ok.room i hi
  have hn1 := h.ok.need1
  have hn2 := h.ok.need2
  have fs := h.row.free i
  have hlt := h.tab.lt
  have hls := h.row.lt
  have hlr := h.rlt
  have hn := h.ok.n2
  have hkap := h.kap
  have hkm := h.kmax
  unfold maxLen at hkm
  have H := Kept.mk h
  have HI := Kept.mk hi
  clear h
  have HT : Kept (openP c i = (c, sendP c 5 ((i : Int) - 1))) := ⟨by unfold openP; rw [hs]; rfl⟩
  rw [HT.out]
  clear hs
  go_enter Try.func34, Try.ntmps34
  go_wp2_with fail
  go_quiet (fail)
  go_wp2_with fail
  refine (closure_open c i 5 _ L w.heap.size (w.heap.size + 1) (((H.out.alloc _).alloc _).drewN _) (cellA _) (cellB _) HI.out).mono ?_
  rintro e w' ⟨v, rfl, ho, hb⟩
  go_wp2_with fail
  go_ret
  exact turns_mk (((H.out.alloc _).alloc _).drewN _) (onlyA _) ⟨v, rfl, ho, hb⟩
set_option maxHeartbeats 2000000 in
theorem open_full (c : Ch) (i : Nat) (w : World) (L : Loc) (h : IsCh w L c) (hi : i < c.n) (hs : c.st i = 0) (hf : c.room i < c.need) :
    Calls Try.prog 34 #[.pointer (some ⟨L.p, 0, none⟩), .int .i64 i] w (Turns w L (openP c i).1 (openP c i).2) := by
  have cs := h.state hi
  rw [hs] at cs
  have c1 := h.tab.cell 1 (v := .int .i64 c.need) rfl
  have c2 := h.tab.cell 2 (v := .slice (some ⟨L.R, 0, none⟩) c.n L.k) rfl
  have c3 := h.tab.cell 3 (v := .slice (some ⟨L.S, 0, none⟩) c.n c.n) rfl
  have cr := h.rooms i hi
  have hr := h.ok.room i hi
  have hn1 := h.ok.need1
  have hn2 := h.ok.need2
  have fs := h.row.free i
  have hlt := h.tab.lt
  have hls := h.row.lt
  have hlr := h.rlt
  have hn := h.ok.n2
  have hkap := h.kap
  have hkm := h.kmax
  unfold maxLen at hkm
  have H := Kept.mk h
  have HI := Kept.mk hi
  clear h
  have HT : Kept (openP c i = (c.put i 3, sendP c 3 ((i : Int) - 1))) := ⟨by unfold openP; rw [if_pos hs, if_pos hf]⟩
  rw [HT.out]
  clear hs
  generalize c.room i = r at *
  go_enter Try.func34, Try.ntmps34
  go_wp2_with fail
  go_quiet (fail)
  go_wp2_with fail
  go_quiet (fail)
  go_wp2_with fail
  go_region
  all_goals go_wp2_with fail
  refine (closure_open (c.put i 3) i 3 _ L w.heap.size (w.heap.size + 1) ((((H.out.alloc _).alloc _).drewN _).put HI.out (by omega) (by omega)) (cellA' _ hls) (cellB' _ hls) (by rw [put_n]; exact HI.out)).mono ?_
  rw [put_sendP]
  rintro e w' ⟨v, rfl, ho, hb⟩
  go_wp2_with fail
  go_ret
  exact turns_mk ((((H.out.alloc _).alloc _).drewN _).put HI.out (by omega) (by omega)) (setS (onlyA _)) ⟨v, rfl, ho, hb⟩
set_option maxHeartbeats 2000000 in
theorem open_last (c : Ch) (i : Nat) (w : World) (L : Loc) (h : IsCh w L c) (hi : i < c.n) (hs : c.st i = 0) (hf : c.need ≤ c.room i) (hl : i + 1 = c.n) :
    Calls Try.prog 34 #[.pointer (some ⟨L.p, 0, none⟩), .int .i64 i] w (Turns w L (openP c i).1 (openP c i).2) := by
  have cs := h.state hi
  rw [hs] at cs
  have c1 := h.tab.cell 1 (v := .int .i64 c.need) rfl
  have c2 := h.tab.cell 2 (v := .slice (some ⟨L.R, 0, none⟩) c.n L.k) rfl
  have c3 := h.tab.cell 3 (v := .slice (some ⟨L.S, 0, none⟩) c.n c.n) rfl
  have cr := h.rooms i hi
  have hr := h.ok.room i hi
  have hn1 := h.ok.need1
  have hn2 := h.ok.need2
  have fs := h.row.free i
  have hlt := h.tab.lt
  have hls := h.row.lt
  have hlr := h.rlt
  have hn := h.ok.n2
  have hkap := h.kap
  have hkm := h.kmax
  unfold maxLen at hkm
  have H := Kept.mk h
  have HI := Kept.mk hi
  clear h
  have HT : Kept (openP c i = (c.put i 2, sendP c 2 ((i : Int) - 1))) := ⟨by unfold openP; rw [if_pos hs, if_neg (by omega), if_pos hl]⟩
  have HL := Kept.mk (show decide (i + 1 = c.n) = true by simpa using hl)
  clear hl
  rw [HT.out]
  clear hs
  generalize c.room i = r at *
  go_enter Try.func34, Try.ntmps34
  go_wp2_with fail
  go_quiet (fail)
  go_wp2_with fail
  go_quiet (fail)
  go_wp2_with fail
  refine (last_c c i _ L (((H.out.alloc _).alloc _).drewN _) HI.out).mono ?_
  rintro e w' ⟨rfl, rfl⟩
  rw [HL.out]
  go_wp2_with fail
  go_region
  all_goals go_wp2_with fail
  refine (closure_open (c.put i 2) i 2 _ L w.heap.size (w.heap.size + 1) ((((H.out.alloc _).alloc _).drewN _).put HI.out (by omega) (by omega)) (cellA' _ hls) (cellB' _ hls) (by rw [put_n]; exact HI.out)).mono ?_
  rw [put_sendP]
  rintro e w' ⟨v, rfl, ho, hb⟩
  go_wp2_with fail
  go_ret
  exact turns_mk ((((H.out.alloc _).alloc _).drewN _).put HI.out (by omega) (by omega)) (setS (onlyA _)) ⟨v, rfl, ho, hb⟩
set_option maxHeartbeats 2000000 in
theorem open_mid (c : Ch) (i : Nat) (w : World) (L : Loc) (h : IsCh w L c) (hi : i < c.n) (hs : c.st i = 0) (hf : c.need ≤ c.room i) (hl : i + 1 < c.n) :
    Calls Try.prog 34 #[.pointer (some ⟨L.p, 0, none⟩), .int .i64 i] w (Turns w L (openP c i).1 (openP c i).2) := by
  have cs := h.state hi
  rw [hs] at cs
  have c1 := h.tab.cell 1 (v := .int .i64 c.need) rfl
  have c2 := h.tab.cell 2 (v := .slice (some ⟨L.R, 0, none⟩) c.n L.k) rfl
  have c3 := h.tab.cell 3 (v := .slice (some ⟨L.S, 0, none⟩) c.n c.n) rfl
  have cr := h.rooms i hi
  have hr := h.ok.room i hi
  have hn1 := h.ok.need1
  have hn2 := h.ok.need2
  have fs := h.row.free i
  have hlt := h.tab.lt
  have hls := h.row.lt
  have hlr := h.rlt
  have hn := h.ok.n2
  have hkap := h.kap
  have hkm := h.kmax
  unfold maxLen at hkm
  have H := Kept.mk h
  have HI := Kept.mk hi
  clear h
  have HT : Kept (openP c i = (c.put i 1, sendP c 1 ((i : Int) + 1))) := ⟨by unfold openP; rw [if_pos hs, if_neg (by omega), if_neg (by omega)]⟩
  have HL := Kept.mk (show decide (i + 1 = c.n) = false by simp; omega)
  rw [HT.out]
  clear hs
  generalize c.room i = r at *
  go_enter Try.func34, Try.ntmps34
  go_wp2_with fail
  go_quiet (fail)
  go_wp2_with fail
  go_quiet (fail)
  go_wp2_with fail
  refine (last_c c i _ L (((H.out.alloc _).alloc _).drewN _) HI.out).mono ?_
  rintro e w' ⟨rfl, rfl⟩
  rw [HL.out]
  go_wp2_with fail
  go_region
  all_goals
    have ka := cellA' (a := .pointer (some ⟨L.p, 0, none⟩)) (b := .int .i64 i) (ta := 24) (tb := 3) 0 (o := i) (u := .int .i64 1) hls
    have kb := cellB' (a := .pointer (some ⟨L.p, 0, none⟩)) (b := .int .i64 i) (ta := 24) (tb := 3) 0 (o := i) (u := .int .i64 1) hls
  all_goals go_wp2_with fail
  refine (send_c (c.put i 1) 1 ((i : Int) + 1) _ L ((((H.out.alloc _).alloc _).drewN _).put HI.out (by omega) (by omega))).mono ?_
  rw [put_sendP]
  rintro e w' ⟨v, rfl, ho, hb⟩
  go_wp2_with fail
  go_ret
  exact turns_mk ((((H.out.alloc _).alloc _).drewN _).put HI.out (by omega) (by omega)) (setS (onlyA _)) ⟨v, rfl, ho, hb⟩
theorem open_c (c : Ch) (i : Nat) (w : World) (L : Loc) (h : IsCh w L c) (hi : i < c.n) :
    Calls Try.prog 34 #[.pointer (some ⟨L.p, 0, none⟩), .int .i64 i] w (Turns w L (openP c i).1 (openP c i).2) := by
  have hs5 := h.ok.st i hi
  have hsc : c.st i = 0 ∨ c.st i = 1 ∨ c.st i = 2 ∨ c.st i = 3 ∨ c.st i = 4 ∨ c.st i = 5 := by omega
  rcases hsc with hs | hs | hs | hs | hs | hs
  · by_cases hf : c.room i < c.need
    · exact open_full c i w L h hi hs hf
    · by_cases hl : i + 1 = c.n
      · exact open_last c i w L h hi hs (by omega) hl
      · exact open_mid c i w L h hi hs (by omega) (by omega)
  · exact open_s1 c i w L h hi hs
  · exact open_s2 c i w L h hi hs
  · exact open_s3 c i w L h hi hs
  · exact open_s4 c i w L h hi hs
  · exact open_s5 c i w L h hi hs
end Go.Proofs.Ytnmgnggchgckoaa
