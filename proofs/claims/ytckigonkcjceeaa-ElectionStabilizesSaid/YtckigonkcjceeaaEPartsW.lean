/- graph.Parts. -/
import Derived.Test.YtckigonkcjceeaaEParts
namespace Go.Proofs.Ytckigonkcjceeaa
set_option linter.unusedVariables false
set_option linter.unusedSimpArgs false
open Go.RowKit
theorem partL_none (n : Nat) : partL (fun _ => false) n = [] := by
  induction n with
  | zero => rfl
  | succ n ih => rw [partL_succ, ih]; simp
structure Pt where
  A : Option Addr
  cap : Nat
  L : List Int
deriving Inhabited
def pcell (p : Pt) : List Value := [.slice p.A p.L.length p.cap]
theorem pcell_len (p : Pt) : (pcell p).length = 1 := rfl
theorem own_own_ne {w : World} {B B' sz sz' n n' : Nat} {e e' : TypeId} {v v' : Value} {xs xs' : List Value} (h : w.ownsRow B e sz v n xs) (h' : w.ownsRow B' e' sz' v' n' xs') (hne : e ≠ e') {g : Nat} (hg : v.ownBlock = some g) : v'.ownBlock ≠ some g := by
  intro hg'
  rcases h.2 with ⟨rfl, _⟩ | ⟨g1, cap, cur, rfl, _, hh, _⟩
  · simp [Value.ownBlock] at hg
  · rcases h'.2 with ⟨rfl, _⟩ | ⟨g2, cap2, cur2, rfl, _, hh2, _⟩
    · simp [Value.ownBlock] at hg'
    · have e1 : g1 = g := by simpa [Value.ownBlock] using hg
      have e2 : g2 = g := by simpa [Value.ownBlock] using hg'
      subst e1; subst e2
      rw [hh] at hh2
      injection hh2 with hh2
      injection hh2 with _ ht
      exact hne ht
theorem own_grown {w w' : World} {B sz n : Nat} {e : TypeId} {v v' : Value} {xs : List Value} (h : w.ownsRow B e sz v n xs) (hg : w.grownBy w' v'.ownBlock) (hne : ∀ g, v.ownBlock = some g → v'.ownBlock ≠ some g) : w'.ownsRow B e sz v n xs :=
  own_move h fun g hb => hg.block g (h.lt g hb).2 (fun e => hne g hb e.symm)
theorem own_only {w w' : World} {S : Nat → Prop} {B sz n : Nat} {e : TypeId} {v : Value} {xs : List Value} (h : w.ownsRow B e sz v n xs) (k : OnlyP S w w') (hne : ∀ g, v.ownBlock = some g → ¬ S g) : w'.ownsRow B e sz v n xs :=
  own_move h fun g hb => k.block g (h.lt g hb).2 (hne g hb)
theorem infoS : (Try.prog.info? 61).map (fun i => (i.zero, i.size, i.bytes)) = some (some (.slice none 0 0), 1, 24) := by kernel_rfl
/-- What Parts returns. -/
def PartsR (w : World) (l : List (Cb × Bool)) (n : Nat) (e : Ending) (w' : World) : Prop := ∃ (A : Option Addr) (kap : Nat) (pts : List Pt), e = .returned (.slice A pts.length kap) ∧ RowsAt w' w'.heap.size 1 pcell A pts ∧ (∀ pt ∈ pts, PartOk l n pt.L ∧ RowsAt w' w'.heap.size 1 icell pt.A pt.L) ∧ (pts.map fun pt => pt.L.length).sum = n ∧ pts.length ≤ n ∧ Below w.heap.size w w'
set_option maxRecDepth 100000 in
set_option maxHeartbeats 16000000 in
theorem Parts_ (N : List Nd) (C : List Cb) (An Ac Au : Option Addr) (kn kc ku : Nat) (up : List Bool) (w : World) (hp : PlanAt w w.heap.size ⟨N, C, An, kn, Ac, kc⟩) (hu : RowsAt w w.heap.size 1 bcell1 Au up) (hv : validE N C = 0) (hlu : up.length = C.length) :
    Calls Try.prog 35 #[.agg #[.slice An N.length kn, .slice Ac C.length kc], .slice Au up.length ku] w (PartsR w (C.zip up) N.length) := by
  have HP := Kept.mk hp
  have HU := Kept.mk hu
  have HV := Kept.mk hv
  have HLU := Kept.mk hlu
  have HN := Kept.mk (net_of (up := up) hv)
  have hn16 := (valid_spec hv).1
  clear hp hu hv hlu
  obtain ⟨jj, hjj, hy0, hy1, hy2⟩ := info_parts infoI
  obtain ⟨js, hjs, hs0, hs1, hs2⟩ := info_parts infoS
  have hmk := fun w => run_make_flat (P := Try.prog) bcell1_len (by omega) false 33 4 _ 1 Try.underlying33 infoB rfl N.length (by omega) (by omega) w
  have HB := Kept.mk (Blk.new w 32 #[.slice An N.length kn, .slice Ac C.length kc])
  have HG : Kept (Below w.heap.size w (w.alloc (.cells #[.slice An N.length kn, .slice Ac C.length kc] 32))) := ⟨(Below.refl _ _).alloc (Nat.le_refl _) _⟩
  go_enter Try.func35, Try.ntmps35
  go_wp2_with (go_at_call 47; refine (usable_ N C An Ac Au kn kc ku up _ (HP.out.new_ HG.out) HV.out HLU.out).mono ?_; rintro e w1 ⟨rfl, hb1⟩; have HB1 := Kept.mk (HB.out.new_ hb1); have HD1 := Kept.mk (join HG.out hb1); clear hb1; have k0 := HB1.out.cell 0 (v := .slice An N.length kn) rfl; have k1 := HB1.out.cell 1 (v := .slice Ac C.length kc) rfl; have z1 := HB1.out.lt)
  have HS0 : Kept (RowBlk (w1.alloc (.cells ((List.replicate N.length false).flatMap bcell1).toArray 4)) w1.heap.size 4 bcell1 (flagL (fun _ => false) N.length)) := ⟨by rw [flagL_rep]; exact Blk.new w1 4 _⟩
  have HB2 := Kept.mk (HB1.out.alloc (.cells ((List.replicate N.length false).flatMap bcell1).toArray 4))
  have HD2 : Kept (Below w.heap.size w (w1.alloc (.cells ((List.replicate N.length false).flatMap bcell1).toArray 4))) := ⟨HD1.out.alloc HD1.out.size _⟩
  clear k0 k1 hmk HB HG HB1 HD1
  generalize w1.heap.size = gS at *
  go_loopw [5, 22] (fun v5 v22 wr => ∃ (k : Nat) (f : Nat → Bool) (pts : List Pt), k ≤ N.length ∧ v22 = .int .i64 k ∧ pts.length ≤ k ∧ Kept (SeenOk (C.zip up) N.length k f) ∧ Kept ((pts.map fun pt => pt.L.length).sum = (partL f N.length).length) ∧ Kept (∀ pt ∈ pts, PartOk (C.zip up) N.length pt.L ∧ wr.ownsRow gS 3 1 (.slice pt.A pt.L.length pt.cap) pt.L.length (pt.L.flatMap icell)) ∧ Kept (wr.ownsRow gS 61 1 v5 pts.length (pts.flatMap pcell)) ∧ Kept (RowBlk wr gS 4 bcell1 (flagL f N.length)) ∧ Kept (Blk wr w.heap.size 32 #[.slice An N.length kn, .slice Ac C.length kc]) ∧ Kept (Below w.heap.size w wr)) (fun _ v _ => N.length - (intOf v).toNat)
  case atStart => exact ⟨0, fun _ => false, [], Nat.zero_le _, rfl, by simp, ⟨seen_zero⟩, ⟨by rw [partL_none]; rfl⟩, ⟨by simp⟩, ⟨World.ownsRow_nil _ _ _ _⟩, HS0, HB2, HD2⟩
  case round =>
    clear HS0 HB2 HD2
    obtain ⟨k, f, pts, hk, rfl, hpk, HSO, HSU, HPT, HO5, HSB, HB, HD⟩ := hrel
    have zS := HSB.out.lt
    have zB := HB.out.lt
    have k0 := HB.out.cell 0 (v := .slice An N.length kn) rfl
    have k1 := HB.out.cell 1 (v := .slice Ac C.length kc) rfl
    by_cases hlt : k < N.length
    · have s0 : wr.cell? ⟨gS, k, none⟩ = some (.bool (f k)) := by have := HSB.out.cell bcell1_len (flagL_get hlt) (j := 0) rfl; simpa using this
      cases hfk : f k with
      | true =>
        rw [hfk] at s0
        have HSK := Kept.mk (seen_skip HSO.out hlt hfk)
        clear hfk
        go_wp2_with fail
        go_roundw
        case rel => exact ⟨k + 1, f, pts, by omega, by go_num, by omega, HSK, HSU, HPT, HO5, HSB, HB, HD⟩
        case measure => simp [intOf]; omega
      | false =>
        rw [hfk] at s0
        have HFK := Kept.mk hfk
        clear hfk
        go_wp2_with (go_at_call 48; refine (distances_b N C An Ac Au kn kc ku k up _ (HP.out.new_ HD.out) (HU.out.new_ HD.out) HV.out HLU.out hlt).mono ?_; rintro e w3 ⟨gD, kD, L, rfl, hF, hr3, hgD, hb3⟩; have HF := Kept.mk hF; have HQ3 := Kept.mk hr3; have HB3 := Kept.mk (HB.out.new_ hb3); have HD3 := Kept.mk (join HD.out hb3); have HSB3 := Kept.mk (HSB.out.new_ hb3); have HO53 := Kept.mk (own_new HO5.out hb3); have HPT3 : Kept (∀ pt ∈ pts, PartOk (C.zip up) N.length pt.L ∧ w3.ownsRow gS 3 1 (.slice pt.A pt.L.length pt.cap) pt.L.length (pt.L.flatMap icell)) := ⟨fun pt hpt => ⟨(HPT.out pt hpt).1, own_new (HPT.out pt hpt).2 hb3⟩⟩; have hz3 := hb3.size; clear hF hr3 hb3 s0 k0 k1)
        have HLL := Kept.mk HF.out.len
        obtain ⟨p, hp⟩ : ∃ p : Nat → Bool, p = fun (j : Nat) => decide (0 ≤ dAt L (j : Int)) := ⟨_, rfl⟩
        have HPP : Kept (∀ j : Nat, p j = decide (0 ≤ dAt L (j : Int))) := ⟨fun j => by rw [hp]⟩
        have HPC : Kept (∀ j : Nat, j < N.length → (p j = true ↔ Conn (C.zip up) N.length k j)) := ⟨fun j hj => by rw [HPP.out, decide_eq_true_eq]; exact far_conn HF.out (by omega) (by omega)⟩
        clear hp HO5 HPT HSB HB
        have hzS := zS
        go_loopw [8, 34] (fun v8 v34 wr => ∃ y : Nat, y ≤ N.length ∧ v34 = .int .i64 y ∧ Kept (wr.ownsRow w3.heap.size 3 1 v8 (partL p y).length ((partL p y).flatMap icell)) ∧ Kept (RowBlk wr gS 4 bcell1 (flagL (fun j => f j || (decide (j < y) && p j)) N.length)) ∧ Kept (OnlyP (· = gS) w3 wr)) (fun _ v _ => N.length - (intOf v).toNat)
        case atStart => exact ⟨0, Nat.zero_le _, rfl, ⟨World.ownsRow_nil _ _ _ _⟩, ⟨by have h := HSB3.out; rwa [← flagL_congr (g := fun j => f j || (decide (j < 0) && p j)) (f := f) (fun j hj => by simp)] at h⟩, ⟨OnlyP.refl _ _⟩⟩
        case round =>
          obtain ⟨y, hy, rfl, HOV, HSY, HON⟩ := hrel
          have zSi := HSY.out.lt
          have hzr := HON.out.size
          have hpl := partL_len p y
          by_cases hly : y < N.length
          · obtain ⟨d, hd⟩ := get_some (l := L) (k := y) (by rw [HLL.out]; exact hly)
            have HQ : RowBlk wr gD 3 icell L := HQ3.out.only HON.out (by omega)
            have d0 : wr.cell? ⟨gD, y, none⟩ = some (.int .i64 d) := by have := HQ.cell icell_len hd (j := 0) rfl; simpa using this
            have hpd : p y = decide (0 ≤ d) := by rw [HPP.out, dAt_get hd]
            have zD := HQ.lt
            by_cases hd0 : 0 ≤ d
            · have q1 := decide_eq_true hd0
              have HPY : Kept (p y = true) := ⟨hpd.trans q1⟩
              have HM := Kept.mk (reads_made wr #[.int .i64 (y : Int)] 3 1 1 rfl)
              have HO6 := Kept.mk (HOV.out.alloc (.cells #[.int .i64 (y : Int)] 3))
              have HS6 := Kept.mk (HSY.out.alloc (.cells #[.int .i64 (y : Int)] 3))
              have h1 : ∀ u ∈ (#[Value.int .i64 (y : Int)]).toList, u.oneCell' = true := (by intro u hu; simp at hu; subst hu; rfl)
              clear hd hpd hd0 HQ
              go_wp2_with (at_builtin; refine wpList_append_any _ rfl _ _ _ rfl w3.heap.size 3 jj _ 1 8 Try.underlying61 hjj hy0 hy1 hy2 rfl (by omega) _ (partL p y).length _ rfl HO6.out _ _ 1 1 _ rfl HM.out h1 (by unfold maxLen; omega) (by omega) (by simp; omega) ?_; intro v' w4 ho hgw hat; have HO7 := Kept.mk ho; have HGW := Kept.mk hgw; have HS7 : Kept (RowBlk w4 gS 4 bcell1 (flagL (fun j => f j || (decide (j < y) && p j)) N.length)) := ⟨HS6.out.grown hgw (fun e => own_blk_ne HO6.out HS6.out (by decide) e.symm)⟩; clear ho hgw hat d0; have s0 : w4.cell? ⟨gS, y, none⟩ = some (.bool (f y || (decide (y < y) && p y))) := (by have h2 := HS7.out.cell bcell1_len (flagL_get hly) (j := 0) rfl; simpa using h2); have f0 := HS7.out.free y; have zS7 := HS7.out.lt)
              go_roundw
              case rel => exact ⟨y + 1, by omega, by go_num, ⟨by
                have h2 := ownsRow_setCell_other HO7.out (a := ⟨gS, y, none⟩) (own_blk_ne HO7.out HS7.out (by decide)) (.bool true)
                rw [partL_succ, if_pos HPY.out, List.length_append, List.flatMap_append]
                simpa [icell] using h2⟩, ⟨by
                rw [← flagL_set (f := fun j => f j || (decide (j < y) && p j)) hly (fun j hj => by
                  by_cases e : j = y
                  · subst e; rw [if_pos rfl, HPY.out]; simp
                  · rw [if_neg e]
                    congr 2
                    rw [decide_eq_decide]; omega)]
                exact HS7.out.set1 bcell1_len (by rw [flagL_len]; exact hly) rfl⟩, ⟨((HON.out.alloc _).grown HGW.out (fun g hg => .inr (HO6.out.lt g hg).1)).set (p := ⟨gS, y, none⟩) (.inl rfl) _⟩⟩
              case measure => simp [intOf]; omega
            · have q1 := decide_eq_false hd0
              have HPY : Kept (p y = false) := ⟨hpd.trans q1⟩
              clear hd hpd hd0 HQ
              go_wp2_with fail
              go_roundw
              case rel => exact ⟨y + 1, by omega, by go_num, ⟨by rw [partL_succ, if_neg (by rw [HPY.out]; decide), List.append_nil]; exact HOV.out⟩, ⟨by
                rw [flagL_congr (f := fun j => f j || (decide (j < y) && p j)) (fun j hj => by
                  by_cases e : j = y
                  · subst e; rw [HPY.out]; simp
                  · congr 2
                    rw [decide_eq_decide]; omega)]
                exact HSY.out⟩, HON⟩
              case measure => simp [intOf]; omega
          · obtain rfl : y = N.length := by omega
            obtain ⟨A8, c8, hv8⟩ := own_slice HOV.out
            subst hv8
            have HO5y := Kept.mk (own_only HO53.out HON.out (fun g hg e => own_blk_ne HO53.out HSB3.out (by decide) (by rw [hg, e])))
            have HO5a := Kept.mk (HO5y.out.alloc (.cells #[.slice A8 (partL p N.length).length c8] 61))
            have HM5 := Kept.mk (reads_made wr #[.slice A8 (partL p N.length).length c8] 61 1 1 rfl)
            have h1 : ∀ u ∈ (#[Value.slice A8 (partL p N.length).length c8]).toList, u.oneCell' = true := (by intro u hu; simp at hu; subst hu; rfl)
            have HSF : Kept (RowBlk wr gS 4 bcell1 (flagL (fun j => f j || p j) N.length)) := ⟨by
              have h := HSY.out
              rwa [← flagL_congr (g := fun j => f j || p j) (fun j hj => by simp [hj])] at h⟩
            have HDw : Kept (Below w.heap.size w wr) := ⟨joinP HD3.out HON.out (fun j hj => by omega) (Nat.le_refl _)⟩
            have HBw := Kept.mk (HB3.out.only HON.out (by omega))
            clear hly
            go_wp2_with (at_builtin; refine wpList_append_any _ rfl _ _ _ rfl gS 61 js _ 1 24 Try.underlying70 hjs hs0 hs1 hs2 rfl (by omega) _ pts.length _ rfl HO5a.out _ _ 1 1 _ rfl HM5.out h1 (by unfold maxLen; omega) (by omega) (by simp; omega) ?_; intro v' w4 ho hgw hat; have HO7 := Kept.mk ho; have HGW := Kept.mk hgw; clear ho hgw hat)
            go_roundw
            case rel => exact ⟨k + 1, fun j => f j || p j, pts ++ [⟨A8, c8, partL p N.length⟩], by omega, by go_num, by simp; omega, ⟨seen_add HSO.out HPC.out⟩, ⟨by
              rw [List.map_append, List.sum_append, HSU.out, partL_or N.length (seen_apart HN.out HSO.out hlt (by rw [HFK.out]; decide) HPC.out)]; simp⟩, ⟨fun pt hpt => by
              rcases List.mem_append.1 hpt with hpt | hpt
              · obtain ⟨a1, a2⟩ := HPT3.out pt hpt
                have a3 := own_only a2 HON.out (fun g hg e => own_blk_ne a2 HSB3.out (by decide) (by rw [hg, e]))
                exact ⟨a1, own_grown (a3.alloc _) HGW.out (fun g hg => own_own_ne (a3.alloc _) HO5a.out (by decide) hg)⟩
              · simp only [List.mem_singleton] at hpt
                subst hpt
                refine ⟨part_ok HN.out hlt HPC.out (fun hh => ?_), own_base (own_grown (HOV.out.alloc _) HGW.out (fun g hg => own_own_ne (HOV.out.alloc _) HO5a.out (by decide) hg)) (by omega)⟩
                have := (HSO.out k hlt).2 hh
                rw [HFK.out] at this
                cases this⟩, ⟨by have h2 := HO7.out; rw [List.length_append, List.flatMap_append]; simpa [pcell] using h2⟩, ⟨(HSF.out.alloc _).grown HGW.out (fun e => own_blk_ne HO5a.out (HSF.out.alloc _) (by decide) e.symm)⟩, ⟨(HBw.out.alloc _).grown HGW.out (fun e => own_blk_ne HO5a.out (HBw.out.alloc _) (by decide) e.symm)⟩, ⟨(HDw.out.alloc HDw.out.size _).grown HGW.out (by simp; have := HDw.out.size; omega) (fun j hj => by have := HO5a.out.lt j hj; omega)⟩⟩
            case measure => simp [intOf]; omega
    · obtain rfl : k = N.length := by omega
      have HALL : Kept ((pts.map fun pt => pt.L.length).sum = N.length) := ⟨by rw [HSU.out]; exact partL_all _ (seen_all HSO.out)⟩
      obtain ⟨A5, c5, hv5⟩ := own_slice HO5.out
      subst hv5
      clear hlt
      go_wp2_with fail
      go_ret
      exact ⟨A5, c5, pts, rfl, RowsAt.of_own HO5.out pcell_len (by omega) rfl, fun pt hpt => ⟨(HPT.out pt hpt).1, RowsAt.of_own (HPT.out pt hpt).2 icell_len (by omega) rfl⟩, HALL.out, hpk, HD.out⟩
end Go.Proofs.Ytckigonkcjceeaa
