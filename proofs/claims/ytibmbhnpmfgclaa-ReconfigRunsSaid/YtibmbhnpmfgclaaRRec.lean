/- Reconfig: the walks of the four receivers. -/
import Derived.Test.YtibmbhnpmfgclaaRStep
import Derived.StillTailTactics
namespace Go.Proofs.Ytibmbhnpmfgclaa
set_option linter.unusedVariables false
set_option linter.unusedSimpArgs false
open Go.RowKit Go.Maps
theorem z_yes {a b : Int} (h : a = b) : (a == b) = true ∧ (a != b) = false := by simp [h]
theorem z_no {a b : Int} (h : a ≠ b) : (a == b) = false ∧ (a != b) = true := by simp [h]
theorem still_tail {P : Program} {id : Nat} {Q : Exit → Act → World → Prop} {a : Act} {w : World} {l : List Oper} (n : Nat) (hm : P.follows .mixedOrders = true) (hB : Region.lexTailB .any l.toArray n = true)
    (h : wpStill P l.toArray w.drew (fun a' => wpList P l.toArray Q (l.drop n) a' w.drew) (l.take n) a) : (Code.region id l.toArray true).wp P Q a w := wp_region_still_tail n hm hB h
section
variable {w : World} {L : Lay} {M : List Nm}
theorem Upd.pre {w w1 w' : World} {L : Lay} {M : List Nm} {o : OutP} {e : Ending} (h : Upd w1 L M o e w') (k : Below w.heap.size w w1) : Upd w L M o e w' := h.after (OnlyP.of_below k _) sl_same
theorem Upd.keep {w w' : World} {L : Lay} {M : List Nm} (h : ChAt w L M) {l : List Mg} {A : Option Addr} {kap : Nat} (ho : w'.ownsRow w.heap.size 39 4 (.slice A l.length kap) l.length (l.flatMap mcell)) (hb : Below w.heap.size w w') : Upd w L M (sns M, l) (.returned (.slice A l.length kap)) w' :=
  Upd.last h rfl (OnlyP.refl _ _) sl_same ho hb
theorem Upd.none {w w' : World} {L : Lay} {M : List Nm} (h : ChAt w L M) (hb : Below w.heap.size w w') : Upd w L M (sns M, []) (.returned (.slice .none 0 0)) w' :=
  Upd.nil_ (h.new_ hb) rfl (OnlyP.of_below hb _) sl_same
theorem box_below (w : World) (o : Obj) (n : Nat) : Below w.heap.size w ((w.alloc o).drewN n) := dN ((Below.refl _ _).alloc (Nat.le_refl _) o) n
end
set_option maxRecDepth 100000 in
set_option maxHeartbeats 4000000 in
theorem recvPrepare_c (w : World) (L : Lay) (M : List Nm) (k ep : Int) (f v : Nat) (m : Nm) (h : ChAt w L M) (hv : M[v]? = some m) (he : m.x.ep ≤ MaxEp) (hk : m.x.ph ≤ 3) :
    Calls Try.prog 43 #[.pointer (some ⟨L.b, 0, none⟩), .agg #[.int .i64 k, .int .i64 f, .int .i64 v, .int .i64 ep]] w (Upd w L M (recvPrepareP L.P L.root (sns M) f v ep)) := by
  have HE := Kept.mk he
  have HH := Kept.mk h
  have HV := Kept.mk hv
  have HB := Kept.mk (box_below w (.cells #[.int .i64 k, .int .i64 f, .int .i64 v, .int .i64 ep] 39))
  have hxv := sns_get hv
  unfold MaxEp at he
  obtain ⟨pt, hpt, hN⟩ := h.node hv
  obtain ⟨b0, b1, b2, b3, c0, n0, n1, n2, n3, -, vl, sm, zb, zC, zN, pl, nb, nc⟩ := hN
  clear h hv hpt b0 b1 b2 c0 n2 n3
  unfold recvPrepareP
  rw [hxv]
  by_cases h1 : ep = (m.x.ep : Int) + 1
  · obtain ⟨q1, q2⟩ := z_yes h1
    rw [if_pos h1]
    by_cases h2 : m.x.ph = 0
    · obtain ⟨q3, q4⟩ := z_yes (show (m.x.ph : Int) = 0 by omega)
      rw [if_pos h2]
      clear h1 h2 hxv
      go_enter Try.func43, Try.ntmps43
      go_wp2_with fail
      go_quiet (fail)
      go_wp2_with fail
      go_quiet (fail)
      go_wp2_with (go_at_call 41; refine (prepare_c _ L _ v _ (HH.out.new_ (HB.out _)) HV.out HE.out).mono ?_; rintro e w1 hu; obtain ⟨A, kap, rfl, hu2⟩ := Upd.ret (Upd.pre hu (HB.out _)); have HU := Kept.mk hu2; clear hu hu2)
      go_ret
      exact HU.out
    · obtain ⟨q3, q4⟩ := z_no (show (m.x.ph : Int) ≠ 0 by omega)
      rw [if_neg h2]
      by_cases h3 : m.x.ph = 2
      · obtain ⟨q5, q6⟩ := z_yes (show (m.x.ph : Int) = 2 by omega)
        rw [if_pos h3]
        clear h1 h2 hxv h3
        go_enter Try.func43, Try.ntmps43
        go_wp2_with fail
        go_quiet (fail)
        go_wp2_with fail
        go_quiet (fail)
        go_wp2_with fail
        refine still_tail 8 (by kernel_rfl) (by kernel_rfl) ?_
        simp only [List.take_succ_cons, List.take_zero, List.drop_succ_cons, List.drop_zero]
        repeat still_step
        refine wpStill_nil ?_
        go_wp2_with (go_at_call 49; refine (rise_c _ L _ v _ 2 ((m.x.ep : Int) + 1) (HH.out.new_ (HB.out _)) HV.out).mono ?_; rintro e w1 ⟨A, kap, rfl, ho, hb⟩; have HR := Kept.mk (Upd.pre (Upd.keep (HH.out.new_ (HB.out _)) ho hb) (HB.out _)); clear ho hb)
        go_ret
        exact HR.out
      · obtain ⟨q5, q6⟩ := z_no (show (m.x.ph : Int) ≠ 2 by omega)
        rw [if_neg h3]
        clear h1 h2 hxv h3
        go_enter Try.func43, Try.ntmps43
        go_wp2_with fail
        go_quiet (fail)
        go_wp2_with fail
        go_quiet (fail)
        go_wp2_with fail
        go_ret
        exact Upd.none HH.out (by first | exact HB.out _ | exact dN (HB.out _) _)
  · obtain ⟨q1, q2⟩ := z_no h1
    rw [if_neg h1]
    clear h1 hxv
    go_enter Try.func43, Try.ntmps43
    go_wp2_with fail
    go_quiet (fail)
    go_wp2_with fail
    go_quiet (fail)
    go_wp2_with fail
    go_ret
    exact Upd.none HH.out (by first | exact HB.out _ | exact dN (HB.out _) _)
end Go.Proofs.Ytibmbhnpmfgclaa
