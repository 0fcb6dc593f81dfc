/- Setup: the walk of Receive at each kind of message (printed by gen_recv.py). -/
import Derived.Test.YtnmgnggchgckoaaRecv
namespace Go.Proofs.Ytnmgnggchgckoaa
set_option linter.unusedVariables false
set_option linter.unusedSimpArgs false
open Go.RowKit
set_option maxHeartbeats 2000000 in
theorem recv_k1 (c : Ch) (cn d : Int) (w : World) (L : Loc) (h : IsCh w L c) :
    Calls Try.prog 18 #[.pointer (some ⟨L.p, 0, none⟩), .agg #[.int .i64 1, .int .i64 cn, .int .i64 d]] w (Recvs w L (recvP c ⟨1, cn, d⟩)) := by
  have c0 := h.tab.cell 0 (v := .int .i64 c.conn) rfl
  have hlt := h.tab.lt
  have hn := h.ok.n2
  have H := Kept.mk h
  clear h
  rcases bool_int cn c.conn with ⟨h1, h2⟩ | ⟨h1, h2⟩
  · cases hd : c.hasB d with
    | false =>
      have HT : Kept (recvP c ⟨1, cn, d⟩ = (c, [], 2)) := ⟨by unfold recvP; rw [if_neg (by simp), if_neg (by simpa using h1), if_neg (by simp [hd])]⟩
      rw [HT.out]
      have HD := Kept.mk hd
      clear hd h1
      generalize c.conn = cc at *
      go_enter Try.func18, Try.ntmps18
      go_wp2_with fail
      go_quiet (fail)
      go_wp2_with fail
      refine (has_c c d _ L ((H.out.alloc _).drewN _)).mono ?_
      rintro e w' ⟨rfl, rfl⟩
      rw [HD.out]
      go_wp2_with fail
      go_ret2
      exact recvs_none ((H.out.alloc _).drewN _) (onlyM _)
    | true =>
      obtain ⟨d0, d1⟩ := hasB_iff.1 hd
      cases hf : c.hasB (d - 1) with
      | false =>
        have HT : Kept (recvP c ⟨1, cn, d⟩ = (c, [], 2)) := ⟨by unfold recvP; rw [if_neg (by simp), if_neg (by simpa using h1), if_neg (by rw [hd]; simp only [fromP]; rw [show wayP 1 = true from rfl]; simp [hf])]⟩
        rw [HT.out]
        have HD := Kept.mk hd
        have HF := Kept.mk hf
        clear hd h1 hf
        generalize c.conn = cc at *
        go_enter Try.func18, Try.ntmps18
        go_wp2_with fail
        go_quiet (fail)
        go_wp2_with fail
        refine (has_c c d _ L ((H.out.alloc _).drewN _)).mono ?_
        rintro e w' ⟨rfl, rfl⟩
        rw [HD.out]
        go_wp2_with fail
        refine (has_c c (d - 1) _ L ((H.out.alloc _).drewN _)).mono ?_
        rintro e w' ⟨rfl, rfl⟩
        rw [HF.out]
        go_wp2_with fail
        go_ret2
        exact recvs_none ((H.out.alloc _).drewN _) (onlyM _)
      | true =>
        obtain ⟨i, rfl⟩ := Int.eq_ofNat_of_zero_le d0
        have HT : Kept (recvP c ⟨1, cn, i⟩ = ((openP c i).1, (openP c i).2, 0)) := ⟨by unfold recvP; rw [if_neg (by simp), if_neg (by simpa using h1), if_pos (by rw [hd]; simp only [fromP]; rw [show wayP 1 = true from rfl]; simpa using hf)]; rfl⟩
        rw [HT.out]
        have HD := Kept.mk hd
        have HF := Kept.mk hf
        clear hd h1 hf
        generalize c.conn = cc at *
        go_enter Try.func18, Try.ntmps18
        go_wp2_with fail
        go_quiet (fail)
        go_wp2_with fail
        refine (has_c c i _ L ((H.out.alloc _).drewN _)).mono ?_
        rintro e w' ⟨rfl, rfl⟩
        rw [HD.out]
        go_wp2_with fail
        refine (has_c c ((i : Int) - 1) _ L ((H.out.alloc _).drewN _)).mono ?_
        rintro e w' ⟨rfl, rfl⟩
        rw [HF.out]
        go_wp2_with fail
        refine (open_c c i _ L ((H.out.alloc _).drewN _) (by omega)).mono ?_
        rintro e w1 hT
        obtain ⟨v, rfl, hown, hc, ho⟩ := hT
        have HR := Kept.mk (recvs_turn (x := 0) (onlyM _) ⟨v, rfl, hown, hc, ho⟩)
        clear hown hc ho
        go_wp2_with fail
        go_ret2
        exact HR.out
  · have HT : Kept (recvP c ⟨1, cn, d⟩ = (c, [], 7)) := ⟨by unfold recvP; rw [if_neg (by simp), if_pos (by simpa using h2)]⟩
    rw [HT.out]
    clear h1
    generalize c.conn = cc at *
    go_enter Try.func18, Try.ntmps18
    go_wp2_with fail
    go_quiet (fail)
    go_wp2_with fail
    go_ret2
    exact recvs_none ((H.out.alloc _).drewN _) (onlyM _)
set_option maxHeartbeats 2000000 in
theorem recv_k2 (c : Ch) (cn d : Int) (w : World) (L : Loc) (h : IsCh w L c) :
    Calls Try.prog 18 #[.pointer (some ⟨L.p, 0, none⟩), .agg #[.int .i64 2, .int .i64 cn, .int .i64 d]] w (Recvs w L (recvP c ⟨2, cn, d⟩)) := by
  have c0 := h.tab.cell 0 (v := .int .i64 c.conn) rfl
  have hlt := h.tab.lt
  have hn := h.ok.n2
  have H := Kept.mk h
  clear h
  rcases bool_int cn c.conn with ⟨h1, h2⟩ | ⟨h1, h2⟩
  · cases hd : c.hasB d with
    | false =>
      have HT : Kept (recvP c ⟨2, cn, d⟩ = (c, [], 2)) := ⟨by unfold recvP; rw [if_neg (by simp), if_neg (by simpa using h1), if_neg (by simp [hd])]⟩
      rw [HT.out]
      have HD := Kept.mk hd
      clear hd h1
      generalize c.conn = cc at *
      go_enter Try.func18, Try.ntmps18
      go_wp2_with fail
      go_quiet (fail)
      go_wp2_with fail
      refine (has_c c d _ L ((H.out.alloc _).drewN _)).mono ?_
      rintro e w' ⟨rfl, rfl⟩
      rw [HD.out]
      go_wp2_with fail
      go_ret2
      exact recvs_none ((H.out.alloc _).drewN _) (onlyM _)
    | true =>
      obtain ⟨d0, d1⟩ := hasB_iff.1 hd
      cases hf : c.hasB (d + 1) with
      | false =>
        have HT : Kept (recvP c ⟨2, cn, d⟩ = (c, [], 2)) := ⟨by unfold recvP; rw [if_neg (by simp), if_neg (by simpa using h1), if_neg (by rw [hd]; simp only [fromP]; rw [show wayP 2 = false from rfl]; simp [hf])]⟩
        rw [HT.out]
        have HD := Kept.mk hd
        have HF := Kept.mk hf
        clear hd h1 hf
        generalize c.conn = cc at *
        go_enter Try.func18, Try.ntmps18
        go_wp2_with fail
        go_quiet (fail)
        go_wp2_with fail
        refine (has_c c d _ L ((H.out.alloc _).drewN _)).mono ?_
        rintro e w' ⟨rfl, rfl⟩
        rw [HD.out]
        go_wp2_with fail
        refine (has_c c (d + 1) _ L ((H.out.alloc _).drewN _)).mono ?_
        rintro e w' ⟨rfl, rfl⟩
        rw [HF.out]
        go_wp2_with fail
        go_ret2
        exact recvs_none ((H.out.alloc _).drewN _) (onlyM _)
      | true =>
        obtain ⟨i, rfl⟩ := Int.eq_ofNat_of_zero_le d0
        have HT : Kept (recvP c ⟨2, cn, i⟩ = ((turnP c i 1 2 2).1, (turnP c i 1 2 2).2, 0)) := ⟨by unfold recvP; rw [if_neg (by simp), if_neg (by simpa using h1), if_pos (by rw [hd]; simp only [fromP]; rw [show wayP 2 = false from rfl]; simpa using hf)]; rfl⟩
        rw [HT.out]
        have HD := Kept.mk hd
        have HF := Kept.mk hf
        clear hd h1 hf
        generalize c.conn = cc at *
        go_enter Try.func18, Try.ntmps18
        go_wp2_with fail
        go_quiet (fail)
        go_wp2_with fail
        refine (has_c c i _ L ((H.out.alloc _).drewN _)).mono ?_
        rintro e w' ⟨rfl, rfl⟩
        rw [HD.out]
        go_wp2_with fail
        refine (has_c c ((i : Int) + 1) _ L ((H.out.alloc _).drewN _)).mono ?_
        rintro e w' ⟨rfl, rfl⟩
        rw [HF.out]
        go_wp2_with fail
        refine (turn_c c i 1 2 2 _ L ((H.out.alloc _).drewN _) (by omega) (by omega) (by omega)).mono ?_
        rintro e w1 hT
        obtain ⟨v, rfl, hown, hc, ho⟩ := hT
        have HR := Kept.mk (recvs_turn (x := 0) (onlyM _) ⟨v, rfl, hown, hc, ho⟩)
        clear hown hc ho
        go_wp2_with fail
        go_ret2
        exact HR.out
  · have HT : Kept (recvP c ⟨2, cn, d⟩ = (c, [], 7)) := ⟨by unfold recvP; rw [if_neg (by simp), if_pos (by simpa using h2)]⟩
    rw [HT.out]
    clear h1
    generalize c.conn = cc at *
    go_enter Try.func18, Try.ntmps18
    go_wp2_with fail
    go_quiet (fail)
    go_wp2_with fail
    go_ret2
    exact recvs_none ((H.out.alloc _).drewN _) (onlyM _)
set_option maxHeartbeats 2000000 in
theorem recv_k3 (c : Ch) (cn d : Int) (w : World) (L : Loc) (h : IsCh w L c) :
    Calls Try.prog 18 #[.pointer (some ⟨L.p, 0, none⟩), .agg #[.int .i64 3, .int .i64 cn, .int .i64 d]] w (Recvs w L (recvP c ⟨3, cn, d⟩)) := by
  have c0 := h.tab.cell 0 (v := .int .i64 c.conn) rfl
  have hlt := h.tab.lt
  have hn := h.ok.n2
  have H := Kept.mk h
  clear h
  rcases bool_int cn c.conn with ⟨h1, h2⟩ | ⟨h1, h2⟩
  · cases hd : c.hasB d with
    | false =>
      have HT : Kept (recvP c ⟨3, cn, d⟩ = (c, [], 2)) := ⟨by unfold recvP; rw [if_neg (by simp), if_neg (by simpa using h1), if_neg (by simp [hd])]⟩
      rw [HT.out]
      have HD := Kept.mk hd
      clear hd h1
      generalize c.conn = cc at *
      go_enter Try.func18, Try.ntmps18
      go_wp2_with fail
      go_quiet (fail)
      go_wp2_with fail
      refine (has_c c d _ L ((H.out.alloc _).drewN _)).mono ?_
      rintro e w' ⟨rfl, rfl⟩
      rw [HD.out]
      go_wp2_with fail
      go_ret2
      exact recvs_none ((H.out.alloc _).drewN _) (onlyM _)
    | true =>
      obtain ⟨d0, d1⟩ := hasB_iff.1 hd
      cases hf : c.hasB (d + 1) with
      | false =>
        have HT : Kept (recvP c ⟨3, cn, d⟩ = (c, [], 2)) := ⟨by unfold recvP; rw [if_neg (by simp), if_neg (by simpa using h1), if_neg (by rw [hd]; simp only [fromP]; rw [show wayP 3 = false from rfl]; simp [hf])]⟩
        rw [HT.out]
        have HD := Kept.mk hd
        have HF := Kept.mk hf
        clear hd h1 hf
        generalize c.conn = cc at *
        go_enter Try.func18, Try.ntmps18
        go_wp2_with fail
        go_quiet (fail)
        go_wp2_with fail
        refine (has_c c d _ L ((H.out.alloc _).drewN _)).mono ?_
        rintro e w' ⟨rfl, rfl⟩
        rw [HD.out]
        go_wp2_with fail
        refine (has_c c (d + 1) _ L ((H.out.alloc _).drewN _)).mono ?_
        rintro e w' ⟨rfl, rfl⟩
        rw [HF.out]
        go_wp2_with fail
        go_ret2
        exact recvs_none ((H.out.alloc _).drewN _) (onlyM _)
      | true =>
        obtain ⟨i, rfl⟩ := Int.eq_ofNat_of_zero_le d0
        have HT : Kept (recvP c ⟨3, cn, i⟩ = ((turnP c i 1 3 3).1, (turnP c i 1 3 3).2, 0)) := ⟨by unfold recvP; rw [if_neg (by simp), if_neg (by simpa using h1), if_pos (by rw [hd]; simp only [fromP]; rw [show wayP 3 = false from rfl]; simpa using hf)]; rfl⟩
        rw [HT.out]
        have HD := Kept.mk hd
        have HF := Kept.mk hf
        clear hd h1 hf
        generalize c.conn = cc at *
        go_enter Try.func18, Try.ntmps18
        go_wp2_with fail
        go_quiet (fail)
        go_wp2_with fail
        refine (has_c c i _ L ((H.out.alloc _).drewN _)).mono ?_
        rintro e w' ⟨rfl, rfl⟩
        rw [HD.out]
        go_wp2_with fail
        refine (has_c c ((i : Int) + 1) _ L ((H.out.alloc _).drewN _)).mono ?_
        rintro e w' ⟨rfl, rfl⟩
        rw [HF.out]
        go_wp2_with fail
        refine (turn_c c i 1 3 3 _ L ((H.out.alloc _).drewN _) (by omega) (by omega) (by omega)).mono ?_
        rintro e w1 hT
        obtain ⟨v, rfl, hown, hc, ho⟩ := hT
        have HR := Kept.mk (recvs_turn (x := 0) (onlyM _) ⟨v, rfl, hown, hc, ho⟩)
        clear hown hc ho
        go_wp2_with fail
        go_ret2
        exact HR.out
  · have HT : Kept (recvP c ⟨3, cn, d⟩ = (c, [], 7)) := ⟨by unfold recvP; rw [if_neg (by simp), if_pos (by simpa using h2)]⟩
    rw [HT.out]
    clear h1
    generalize c.conn = cc at *
    go_enter Try.func18, Try.ntmps18
    go_wp2_with fail
    go_quiet (fail)
    go_wp2_with fail
    go_ret2
    exact recvs_none ((H.out.alloc _).drewN _) (onlyM _)
set_option maxHeartbeats 2000000 in
theorem recv_k4 (c : Ch) (cn d : Int) (w : World) (L : Loc) (h : IsCh w L c) :
    Calls Try.prog 18 #[.pointer (some ⟨L.p, 0, none⟩), .agg #[.int .i64 4, .int .i64 cn, .int .i64 d]] w (Recvs w L (recvP c ⟨4, cn, d⟩)) := by
  have c0 := h.tab.cell 0 (v := .int .i64 c.conn) rfl
  have hlt := h.tab.lt
  have hn := h.ok.n2
  have H := Kept.mk h
  clear h
  rcases bool_int cn c.conn with ⟨h1, h2⟩ | ⟨h1, h2⟩
  · cases hd : c.hasB d with
    | false =>
      have HT : Kept (recvP c ⟨4, cn, d⟩ = (c, [], 2)) := ⟨by unfold recvP; rw [if_neg (by simp), if_neg (by simpa using h1), if_neg (by simp [hd])]⟩
      rw [HT.out]
      have HD := Kept.mk hd
      clear hd h1
      generalize c.conn = cc at *
      go_enter Try.func18, Try.ntmps18
      go_wp2_with fail
      go_quiet (fail)
      go_wp2_with fail
      refine (has_c c d _ L ((H.out.alloc _).drewN _)).mono ?_
      rintro e w' ⟨rfl, rfl⟩
      rw [HD.out]
      go_wp2_with fail
      go_ret2
      exact recvs_none ((H.out.alloc _).drewN _) (onlyM _)
    | true =>
      obtain ⟨d0, d1⟩ := hasB_iff.1 hd
      cases hf : c.hasB (d - 1) with
      | false =>
        have HT : Kept (recvP c ⟨4, cn, d⟩ = (c, [], 2)) := ⟨by unfold recvP; rw [if_neg (by simp), if_neg (by simpa using h1), if_neg (by rw [hd]; simp only [fromP]; rw [show wayP 4 = true from rfl]; simp [hf])]⟩
        rw [HT.out]
        have HD := Kept.mk hd
        have HF := Kept.mk hf
        clear hd h1 hf
        generalize c.conn = cc at *
        go_enter Try.func18, Try.ntmps18
        go_wp2_with fail
        go_quiet (fail)
        go_wp2_with fail
        refine (has_c c d _ L ((H.out.alloc _).drewN _)).mono ?_
        rintro e w' ⟨rfl, rfl⟩
        rw [HD.out]
        go_wp2_with fail
        refine (has_c c (d - 1) _ L ((H.out.alloc _).drewN _)).mono ?_
        rintro e w' ⟨rfl, rfl⟩
        rw [HF.out]
        go_wp2_with fail
        go_ret2
        exact recvs_none ((H.out.alloc _).drewN _) (onlyM _)
      | true =>
        obtain ⟨i, rfl⟩ := Int.eq_ofNat_of_zero_le d0
        have HT : Kept (recvP c ⟨4, cn, i⟩ = ((closeP c i).1, (closeP c i).2, 0)) := ⟨by unfold recvP; rw [if_neg (by simp), if_neg (by simpa using h1), if_pos (by rw [hd]; simp only [fromP]; rw [show wayP 4 = true from rfl]; simpa using hf)]; rfl⟩
        rw [HT.out]
        have HD := Kept.mk hd
        have HF := Kept.mk hf
        clear hd h1 hf
        generalize c.conn = cc at *
        go_enter Try.func18, Try.ntmps18
        go_wp2_with fail
        go_quiet (fail)
        go_wp2_with fail
        refine (has_c c i _ L ((H.out.alloc _).drewN _)).mono ?_
        rintro e w' ⟨rfl, rfl⟩
        rw [HD.out]
        go_wp2_with fail
        refine (has_c c ((i : Int) - 1) _ L ((H.out.alloc _).drewN _)).mono ?_
        rintro e w' ⟨rfl, rfl⟩
        rw [HF.out]
        go_wp2_with fail
        refine (close_c c i _ L ((H.out.alloc _).drewN _) (by omega)).mono ?_
        rintro e w1 hT
        obtain ⟨v, rfl, hown, hc, ho⟩ := hT
        have HR := Kept.mk (recvs_turn (x := 0) (onlyM _) ⟨v, rfl, hown, hc, ho⟩)
        clear hown hc ho
        go_wp2_with fail
        go_ret2
        exact HR.out
  · have HT : Kept (recvP c ⟨4, cn, d⟩ = (c, [], 7)) := ⟨by unfold recvP; rw [if_neg (by simp), if_pos (by simpa using h2)]⟩
    rw [HT.out]
    clear h1
    generalize c.conn = cc at *
    go_enter Try.func18, Try.ntmps18
    go_wp2_with fail
    go_quiet (fail)
    go_wp2_with fail
    go_ret2
    exact recvs_none ((H.out.alloc _).drewN _) (onlyM _)
set_option maxHeartbeats 2000000 in
theorem recv_k5 (c : Ch) (cn d : Int) (w : World) (L : Loc) (h : IsCh w L c) :
    Calls Try.prog 18 #[.pointer (some ⟨L.p, 0, none⟩), .agg #[.int .i64 5, .int .i64 cn, .int .i64 d]] w (Recvs w L (recvP c ⟨5, cn, d⟩)) := by
  have c0 := h.tab.cell 0 (v := .int .i64 c.conn) rfl
  have hlt := h.tab.lt
  have hn := h.ok.n2
  have H := Kept.mk h
  clear h
  rcases bool_int cn c.conn with ⟨h1, h2⟩ | ⟨h1, h2⟩
  · cases hd : c.hasB d with
    | false =>
      have HT : Kept (recvP c ⟨5, cn, d⟩ = (c, [], 2)) := ⟨by unfold recvP; rw [if_neg (by simp), if_neg (by simpa using h1), if_neg (by simp [hd])]⟩
      rw [HT.out]
      have HD := Kept.mk hd
      clear hd h1
      generalize c.conn = cc at *
      go_enter Try.func18, Try.ntmps18
      go_wp2_with fail
      go_quiet (fail)
      go_wp2_with fail
      refine (has_c c d _ L ((H.out.alloc _).drewN _)).mono ?_
      rintro e w' ⟨rfl, rfl⟩
      rw [HD.out]
      go_wp2_with fail
      go_ret2
      exact recvs_none ((H.out.alloc _).drewN _) (onlyM _)
    | true =>
      obtain ⟨d0, d1⟩ := hasB_iff.1 hd
      cases hf : c.hasB (d + 1) with
      | false =>
        have HT : Kept (recvP c ⟨5, cn, d⟩ = (c, [], 2)) := ⟨by unfold recvP; rw [if_neg (by simp), if_neg (by simpa using h1), if_neg (by rw [hd]; simp only [fromP]; rw [show wayP 5 = false from rfl]; simp [hf])]⟩
        rw [HT.out]
        have HD := Kept.mk hd
        have HF := Kept.mk hf
        clear hd h1 hf
        generalize c.conn = cc at *
        go_enter Try.func18, Try.ntmps18
        go_wp2_with fail
        go_quiet (fail)
        go_wp2_with fail
        refine (has_c c d _ L ((H.out.alloc _).drewN _)).mono ?_
        rintro e w' ⟨rfl, rfl⟩
        rw [HD.out]
        go_wp2_with fail
        refine (has_c c (d + 1) _ L ((H.out.alloc _).drewN _)).mono ?_
        rintro e w' ⟨rfl, rfl⟩
        rw [HF.out]
        go_wp2_with fail
        go_ret2
        exact recvs_none ((H.out.alloc _).drewN _) (onlyM _)
      | true =>
        obtain ⟨i, rfl⟩ := Int.eq_ofNat_of_zero_le d0
        have HT : Kept (recvP c ⟨5, cn, i⟩ = ((turnP c i 4 5 5).1, (turnP c i 4 5 5).2, 0)) := ⟨by unfold recvP; rw [if_neg (by simp), if_neg (by simpa using h1), if_pos (by rw [hd]; simp only [fromP]; rw [show wayP 5 = false from rfl]; simpa using hf)]; rfl⟩
        rw [HT.out]
        have HD := Kept.mk hd
        have HF := Kept.mk hf
        clear hd h1 hf
        generalize c.conn = cc at *
        go_enter Try.func18, Try.ntmps18
        go_wp2_with fail
        go_quiet (fail)
        go_wp2_with fail
        refine (has_c c i _ L ((H.out.alloc _).drewN _)).mono ?_
        rintro e w' ⟨rfl, rfl⟩
        rw [HD.out]
        go_wp2_with fail
        refine (has_c c ((i : Int) + 1) _ L ((H.out.alloc _).drewN _)).mono ?_
        rintro e w' ⟨rfl, rfl⟩
        rw [HF.out]
        go_wp2_with fail
        refine (turn_c c i 4 5 5 _ L ((H.out.alloc _).drewN _) (by omega) (by omega) (by omega)).mono ?_
        rintro e w1 hT
        obtain ⟨v, rfl, hown, hc, ho⟩ := hT
        have HR := Kept.mk (recvs_turn (x := 0) (onlyM _) ⟨v, rfl, hown, hc, ho⟩)
        clear hown hc ho
        go_wp2_with fail
        go_ret2
        exact HR.out
  · have HT : Kept (recvP c ⟨5, cn, d⟩ = (c, [], 7)) := ⟨by unfold recvP; rw [if_neg (by simp), if_pos (by simpa using h2)]⟩
    rw [HT.out]
    clear h1
    generalize c.conn = cc at *
    go_enter Try.func18, Try.ntmps18
    go_wp2_with fail
    go_quiet (fail)
    go_wp2_with fail
    go_ret2
    exact recvs_none ((H.out.alloc _).drewN _) (onlyM _)
theorem recv_c (c : Ch) (m : Msg) (w : World) (L : Loc) (h : IsCh w L c) :
    Calls Try.prog 18 #[.pointer (some ⟨L.p, 0, none⟩), .agg #[.int .i64 m.kind, .int .i64 m.conn, .int .i64 m.dest]] w (Recvs w L (recvP c m)) := by
  by_cases hk : m.kind < 1 ∨ 5 < m.kind
  · exact recv_kind c m w L h hk
  · obtain ⟨k, cn, d⟩ := m
    have hk2 : k = 1 ∨ k = 2 ∨ k = 3 ∨ k = 4 ∨ k = 5 := by simp only [not_or] at hk; omega
    rcases hk2 with rfl | rfl | rfl | rfl | rfl
    · exact recv_k1 c cn d w L h
    · exact recv_k2 c cn d w L h
    · exact recv_k3 c cn d w L h
    · exact recv_k4 c cn d w L h
    · exact recv_k5 c cn d w L h
end Go.Proofs.Ytnmgnggchgckoaa
