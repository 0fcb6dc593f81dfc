/- Reconfig: the example of the chapter (awake). -/
import Derived.Test.YtibmbhnpmfgclaaRNew
import Derived.Test.YtibmbhnpmfgclaaREq
namespace Go.Proofs.Ytibmbhnpmfgclaa
set_option linter.unusedVariables false
set_option linter.unusedSimpArgs false
open Go.RowKit Go.Maps
def sn0 : Sn := ⟨0, 0, [], false⟩
theorem sns_rep (n : Nat) : sns (List.replicate n (⟨⟨0, 0, [], false⟩, none⟩ : Nm)) = List.replicate n sn0 := by simp [sns, sn0]
theorem nd_rep (n v : Nat) : nd (List.replicate n sn0) v = sn0 := by
  unfold nd
  rw [List.getD_eq_getElem?_getD, List.getElem?_replicate]
  split <;> rfl
theorem fit0 (n : Nat) : Fit (List.replicate n sn0) := by
  refine ⟨fun v _ => ?_, fun v _ => ?_, fun v _ => ?_⟩ <;> rw [nd_rep] <;> simp [sn0]
theorem aw_new : newE (planN 3) (planC 3) [-1, 0, 0] = 0 := by decide +kernel
theorem aw_begin : beginP [-1, 0, 0] 0 (List.replicate 3 sn0) = ([⟨0, 1, [], false⟩, sn0, sn0], [⟨1, 0, 1, 1⟩, ⟨1, 0, 2, 1⟩]) := by rfl
theorem aw_root : rootK [-1, 0, 0] 3 = 0 := by decide
theorem Upd2.get {w w' : World} {L : Lay} {M : List Nm} {o : OutP} {z : Int} {e : Ending} (h : Upd2 w L M o z e w') : ∃ A kap M', e = .returned (.tuple #[.slice A o.2.length kap, .int .i64 z]) ∧ sns M' = o.1 ∧ ChAt w' L M' ∧ w'.ownsRow w.heap.size 39 4 (.slice A o.2.length kap) o.2.length (mcells o.2) ∧ OnlyP (SL L M) w w' ∧ (∀ g, SL L M' g → SL L M g ∨ w.heap.size ≤ g) := by
  obtain ⟨A, kap, rfl, M', A2, kap2, he, h1, h2, h3, h4, h5⟩ := h
  injection he with he
  injection he with e1 e2 e3
  subst e1 e3
  exact ⟨A, kap, M', rfl, h1, h2, h3, h4, h5⟩
theorem NewR.ok {N : List Nd} {C : List Cb} {P : List Int} {w w' : World} {e : Ending} (h : NewR N C P w e w') (h0 : newE N C P = 0) : ∃ L : Lay, e = .returned (.tuple #[.pointer (some ⟨L.b, 0, none⟩), .int .i64 0]) ∧ L.P = P ∧ L.root = rootK P P.length ∧ ChAt w' L (List.replicate P.length ⟨⟨0, 0, [], false⟩, none⟩) ∧ (∀ g, SL L (List.replicate P.length ⟨⟨0, 0, [], false⟩, none⟩) g → w.heap.size ≤ g) ∧ Below w.heap.size w w' := by
  obtain ⟨hb, ⟨h1, _⟩ | ⟨_, L, h1, h2, h3, h4, rfl, h5⟩⟩ := h
  · exact absurd h0 h1
  · refine ⟨L, rfl, h1, h2, h5, fun g hg => ?_, hb⟩
    rcases hg with e | ⟨m, hm, hg⟩
    · rw [e]; exact h4
    · rw [(List.mem_replicate.1 hm).2] at hg; cases hg
theorem lit_rows (w : World) (l : List Int) {n : Nat} {cs : Array Value} (hn : n = l.length) (hcs : cs.toList = l.flatMap icell) : RowsAt (w.alloc (.cells cs 3)) (w.alloc (.cells cs 3)).heap.size 1 icell (some ⟨w.heap.size, 0, none⟩) l := by
  subst hn
  refine ⟨by omega, icell_len, ?_⟩
  have h := reads_made w cs 3 1 l.length (by rw [← Array.length_toList, hcs, flat_len icell_len])
  rw [hcs] at h
  exact h.more (by simp)
set_option maxRecDepth 100000 in
set_option maxHeartbeats 8000000 in
theorem awake_c (w : World) : Calls Try.prog 10 #[] w fun e w' => e = .returned (.bool true) ∧ Below w.heap.size w w' := by
  go_enter Try.func10, Try.ntmps10
  go_wp2_with (first
    | (go_at_call 11; refine (plan_c 3 _ (by omega)).mono ?_; rintro e w1 ⟨⟨N, C, An, kn, Ac, kc⟩, rfl, hN, hC, hp, hb⟩; simp only at hN hC; subst hN hC; unfold pv; have HP1 := Kept.mk hp; have HB1 := Kept.mk hb; have hz1 := hb.size; clear hp hb)
    | (go_at_call 12; refine (New_ (planN 3) (planC 3) An Ac (some ⟨w1.heap.size, 0, none⟩) kn kc 3 [-1, 0, 0] _ (HP1.out.new_ ((Below.refl _ _).alloc (Nat.le_refl _) _)) (lit_rows _ _ rfl rfl) (by decide)).mono ?_; rintro e w2 hnr; obtain ⟨L, rfl, hLP, hLr, hC, hSL, hb2⟩ := hnr.ok aw_new; have HC2 := Kept.mk hC; have HSL2 := Kept.mk hSL; have HLP := Kept.mk hLP; have HLR : Kept (L.root = 0) := ⟨hLr.trans aw_root⟩; have HB2 : Kept (Below w.heap.size w w2) := ⟨((HB1.out.alloc hz1 _).trans (hb2.mono (by simp; omega)))⟩; have hz2 := HB2.out.size; have hz3 := hb2.size; clear hnr hC hSL hLP hLr hb2)
    | (go_at_call 17; refine (Begin_c _ L _ HC2.out (by rw [sns_rep]; exact fit0 _)).mono ?_; rintro e w3 hu; rw [HLP.out, HLR.out, sns_rep, show ([-1, 0, 0] : List Int).length = 3 from rfl, aw_begin, nd_rep, if_pos (show sn0.ph = 0 from rfl)] at hu; obtain ⟨A, kap, M3, rfl, hs3, hC3, ho3, hon, hsl⟩ := Upd2.get hu; have HS3 := Kept.mk hs3; have HC3 := Kept.mk hC3; have HR3 := Kept.mk (Reads.of_own ho3); have HB3 : Kept (Below w.heap.size w w3) := ⟨HB2.out.trans ((hon.below (B := w.heap.size) (fun g hg => by have := HSL2.out g hg; simp at this; omega) (by omega)))⟩; have hz4 := HB3.out.size; clear hu hs3 hC3 ho3 hon hsl)
    | (go_at_call 33; refine (eqm_c [⟨1, 0, 1, 1⟩, ⟨1, 0, 2, 1⟩] [⟨1, 0, 1, 1⟩, ⟨1, 0, 2, 1⟩] A (some ⟨w3.heap.size, 0, none⟩) kap 2 _ _ _ (HR3.out.alloc (Nat.le_refl _) _) (reads_made w3 #[.int .i64 1, .int .i64 0, .int .i64 1, .int .i64 1, .int .i64 1, .int .i64 0, .int .i64 2, .int .i64 1] 39 4 2 rfl) (by decide) (by decide)).mono ?_; rintro e w4 ⟨rfl, n4, rfl⟩; rw [decide_eq_true rfl]; have HC4 := Kept.mk (HC3.out.new_ (box_below w3 (.cells #[.int .i64 1, .int .i64 0, .int .i64 1, .int .i64 1, .int .i64 1, .int .i64 0, .int .i64 2, .int .i64 1] 39) n4)))
    | (go_at_call 22; refine (Finished_c _ L _ HC4.out).mono ?_; rintro e w5 ⟨rfl, n5, rfl⟩; rw [HS3.out, HLR.out]))
  go_ret
  refine ⟨rfl, ?_⟩
  exact dN (HB3.out.alloc HB3.out.size _) _
end Go.Proofs.Ytibmbhnpmfgclaa
