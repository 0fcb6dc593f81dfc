/- Reconfig: the walks of receiveReady, receiveCommit and receiveDone (printed by gen_rrecb.py). -/
import Derived.Test.YtibmbhnpmfgclaaRRec
namespace Go.Proofs.Ytibmbhnpmfgclaa
set_option linter.unusedVariables false
set_option linter.unusedSimpArgs false
open Go.RowKit Go.Maps
theorem flat_same {α β : Type} {f : α → List β} {l : List α} {k : Nat} {x y : α} (hk : l[k]? = some x) (h : f y = f x) : (l.set k y).flatMap f = l.flatMap f := by
  have hkl : k < l.length := (List.getElem?_eq_some_iff.1 hk).1
  have hx : l[k] = x := (List.getElem?_eq_some_iff.1 hk).2
  rw [List.flatMap_def, List.flatMap_def, List.map_set, h]
  congr 1
  apply List.ext_getElem?
  intro i
  rw [List.getElem?_set]
  by_cases e : k = i
  · subst e; rw [if_pos rfl, if_pos (by simpa using hkl), List.getElem?_map, hk]; rfl
  · rw [if_neg e]
def ansN (m : Nm) (f : Nat) : Nm := ⟨{ m.x with an := addA m.x.an f }, m.mb⟩
theorem answer_at {w w1 w' : World} {L : Lay} {M : List Nm} {v f g : Nat} {m : Nm} (h : ChAt w L M) (hv : M[v]? = some m) (hg : m.mb = some g) (hb : Below w.heap.size w w1) (hgr : w1.grownBy w' (some g))
    (hm : MapI Try.prog 3 w' g (if (anF m.x.an (f : Int)).isSome = true then m.x.an.length else m.x.an.length + 1) (fun y => if y = (f : Int) then some (.bool true) else anF m.x.an y)) :
    ChAt w' L (M.set v (ansN m f)) ∧ OnlyP (SL L M) w w' := by
  have k : OnlyP (fun x => x = L.gN ∨ m.mb = some x) w w' := ((OnlyP.of_below hb _).grown hgr (fun x hx => .inl (.inr (by injection hx with hx; rw [hg, hx]))))
  have hmap : MapI Try.prog 3 w' g (addA m.x.an f).length (anF (addA m.x.an f)) := by
    refine hm.cast ?_ fun y => (anF_add _ _ _).symm
    unfold addA
    rw [anF_nat]
    by_cases e : f ∈ m.x.an
    · rw [if_pos e, if_pos e]; rfl
    · rw [if_neg e, if_neg e]; rfl
  refine ⟨h.put hv k ?_ (fun _ => ⟨g, hg, hmap⟩) (.inl rfl) (fun g' hg' => ?_), k.mono fun x hx => ?_⟩
  · unfold RowBlk
    rw [flat_same hv (by rfl)]
    have h2 := (h.nodes.new_ hb).grown hgr (fun e => by
      injection e with e
      exact mb_ne h hv hg e.symm)
    exact h2
  · have e : m.mb = some g' := hg'
    rw [hg] at e
    injection e with e
    subst e
    exact ⟨MapAt.lt hmap, map_notblk hmap⟩
  · rcases hx with e | e
    · exact .inl e
    · exact .inr ⟨m, nmem h hv, e⟩
theorem own_lit (w : World) (m : Mg) (b : Nat) (hb : w.heap.size = b) : (w.alloc (.cells #[.int .i64 m.kind, .int .i64 m.frm, .int .i64 m.to_, .int .i64 m.ep] 39)).ownsRow w.heap.size 39 4 (.slice (some ⟨b, 0, none⟩) 1 1) 1 ([m].flatMap mcell) := by
  subst hb
  exact ⟨by simp [mcell], .inr ⟨w.heap.size, 1, _, rfl, Nat.le_refl _, heap_alloc_new w _, Nat.le_refl _, by unfold maxLen; omega, by simp, by simp [mcell]⟩⟩
set_option maxRecDepth 100000 in
set_option maxHeartbeats 4000000 in
theorem recvReady_c (w : World) (L : Lay) (M : List Nm) (k ep : Int) (f v : Nat) (m : Nm) (h : ChAt w L M) (hv : M[v]? = some m) (he : m.x.ep ≤ MaxEp) (hk : m.x.ph ≤ 3) (hf : f ≤ 1000000) (hl : m.x.an.length ≤ 1000000) :
    Calls Try.prog 44 #[.pointer (some ⟨L.b, 0, none⟩), .agg #[.int .i64 k, .int .i64 f, .int .i64 v, .int .i64 ep]] w (Upd w L M (recvReadyP L.P L.root (sns M) f v ep)) := by
  have HE := Kept.mk he
  have HH := Kept.mk h
  have HV := Kept.mk hv
  have HB := Kept.mk (box_below w (.cells #[.int .i64 k, .int .i64 f, .int .i64 v, .int .i64 ep] 39))
  have hxv := sns_get hv
  unfold MaxEp at he
  obtain ⟨pt, hpt, hN⟩ := h.node hv
  obtain ⟨b0, b1, b2, b3, c0, n0, n1, n2, n3, -, vl, sm, zb, zC, zN, pl, nb, nc⟩ := hN
  have hwf := wfN hf
  have hvl := vlt h hv
  have HL := Kept.mk hl
  have HGS := Kept.mk (get_self hvl (ansN m f))
  have HS : Kept (sns (M.set v (ansN m f)) = (sns M).set v { m.x with an := addA m.x.an f }) := ⟨sns_set _ _ _⟩
  have HSL := Kept.mk (fun g => sl_set (L := L) (m' := ansN m f) (B := w.heap.size) hv (.inl rfl) g)
  have hmp := h.maps m (nmem h hv)
  have hsl : v < (sns M).length := by rw [sns_len]; exact hvl
  clear hpt b0 b1 b2 c0 n3
  unfold recvReadyP answerP
  rw [nd_set hsl, if_pos rfl, hxv]
  by_cases h1 : ep = (m.x.ep : Int) + 1
  · obtain ⟨q1, q2⟩ := z_yes h1
    by_cases h2 : m.x.ph = 1
    · obtain ⟨q3, q4⟩ := z_yes (show (m.x.ph : Int) = 1 by omega)
      have HPH := Kept.mk h2
      obtain ⟨g, hg, hmap⟩ := hmp (.inl h2)
      have HM := Kept.mk hmap
      have hgl := (h.mlt m (nmem h hv) g hg).1
      have HBX : Kept (Blk (w.alloc (.cells #[.int .i64 k, .int .i64 f, .int .i64 v, .int .i64 ep] 39)) w.heap.size 39 #[.int .i64 k, .int .i64 f, .int .i64 v, .int .i64 ep]) := ⟨Blk.new _ _ _⟩
      have HG := Kept.mk hg
      rw [hg] at n2
      rw [if_pos ⟨h1, h2⟩]
      cases hfu : fullB L.P { m.x with an := addA m.x.an f } v with
      | true =>
        have HF : Kept (fullB L.P (ansN m f).x v = true) := ⟨hfu⟩
        rw [if_pos rfl]
        clear h1 h2 hxv hmap hg hmp hfu h hv hvl hsl hf hl
        go_enter Try.func44, Try.ntmps44
        go_wp2_with fail
        go_quiet (fail)
        go_wp2_with fail
        go_quiet (fail)
        go_wp2_with fail
        refine still_tail 6 (by kernel_rfl) (by kernel_rfl) ?_
        simp only [List.take_succ_cons, List.take_zero, List.drop_succ_cons, List.drop_zero]
        repeat still_step
        refine wpStill_nil ?_
        go_wp2_with (first | (at_mapUpdate; refine wpList_setI rfl _ _ _ 87 rfl 3 4 Try.underlying3 Try.underlying87 g _ (anF m.x.an) rfl (MapAt.new_ HM.out (by repeat (first | exact HB.out _ | refine dN ?_ _ | refine bdrew ?_))) (by unfold maxLen; have := HL.out; omega) (f : Int) _ rfl rfl hwf ?_; intro w3 hm3 hg3; have HA := Kept.mk (answer_at HH.out HV.out HG.out (by repeat (first | exact HB.out _ | refine dN ?_ _ | refine bdrew ?_)) hg3 hm3); have hb3 := Blk.grown (w' := w3) (t := 39) (g := w.heap.size) (cs := #[.int .i64 k, .int .i64 f, .int .i64 v, .int .i64 ep]) (by repeat (first | exact HBX.out | refine Blk.drewN ?_ _ | refine Blk.drew ?_)) hg3 (by intro e; injection e with e; omega); have k2 := hb3.cell 2 (v := .int .i64 v) rfl; have k2z := hb3.lt; clear hb3 hm3 hg3) | (go_at_call 63; refine (complete_c _ L _ v (ansN m f) HA.out.1 HGS.out (.inl HPH.out)).mono ?_; rintro e w4 ⟨rfl, n4, rfl⟩; rw [HF.out]; have HA2 := Kept.mk (HA.out.1.new_ (below_dN _ n4)); have HQ2 := Kept.mk (HA.out.2.new (below_dN _ n4))) | (go_at_call 64; refine (prepared_c _ L _ v _ HA2.out HGS.out HE.out).mono ?_; rintro e w5 hu; rw [HS.out] at hu; obtain ⟨A, kap, rfl, hu2⟩ := Upd.ret (Upd.after hu HQ2.out HSL.out); have HU := Kept.mk hu2; clear hu hu2))
        go_ret
        exact HU.out
      | false =>
        have HF : Kept (fullB L.P (ansN m f).x v = false) := ⟨hfu⟩
        rw [if_neg (by decide)]
        clear h1 h2 hxv hmap hg hmp hfu h hv hvl hsl hf hl
        go_enter Try.func44, Try.ntmps44
        go_wp2_with fail
        go_quiet (fail)
        go_wp2_with fail
        go_quiet (fail)
        go_wp2_with fail
        refine still_tail 6 (by kernel_rfl) (by kernel_rfl) ?_
        simp only [List.take_succ_cons, List.take_zero, List.drop_succ_cons, List.drop_zero]
        repeat still_step
        refine wpStill_nil ?_
        go_wp2_with (first | (at_mapUpdate; refine wpList_setI rfl _ _ _ 87 rfl 3 4 Try.underlying3 Try.underlying87 g _ (anF m.x.an) rfl (MapAt.new_ HM.out (by repeat (first | exact HB.out _ | refine dN ?_ _ | refine bdrew ?_))) (by unfold maxLen; have := HL.out; omega) (f : Int) _ rfl rfl hwf ?_; intro w3 hm3 hg3; have HA := Kept.mk (answer_at HH.out HV.out HG.out (by repeat (first | exact HB.out _ | refine dN ?_ _ | refine bdrew ?_)) hg3 hm3); have hb3 := Blk.grown (w' := w3) (t := 39) (g := w.heap.size) (cs := #[.int .i64 k, .int .i64 f, .int .i64 v, .int .i64 ep]) (by repeat (first | exact HBX.out | refine Blk.drewN ?_ _ | refine Blk.drew ?_)) hg3 (by intro e; injection e with e; omega); have k2 := hb3.cell 2 (v := .int .i64 v) rfl; have k2z := hb3.lt; clear hb3 hm3 hg3) | (go_at_call 63; refine (complete_c _ L _ v (ansN m f) HA.out.1 HGS.out (.inl HPH.out)).mono ?_; rintro e w4 ⟨rfl, n4, rfl⟩; rw [HF.out]; have HA2 := Kept.mk (HA.out.1.new_ (below_dN _ n4)); have HQ2 := Kept.mk (HA.out.2.new (below_dN _ n4))))
        go_ret
        exact Upd.nil_ HA2.out HS.out HQ2.out HSL.out
    · obtain ⟨q3, q4⟩ := z_no (show (m.x.ph : Int) ≠ 1 by omega)
      obtain ⟨q5, q6⟩ := z_no (show ep ≠ (m.x.ep : Int) by omega)
      rw [if_neg (fun h => h2 h.2), if_neg (fun h => by have := h.1; omega)]
      clear h1 h2 hxv hmp h hv hvl hsl hf hl n2
      go_enter Try.func44, Try.ntmps44
      go_wp2_with fail
      go_quiet (fail)
      go_wp2_with fail
      go_quiet (fail)
      go_wp2_with fail
      go_quiet (fail)
      go_wp2_with fail
      go_ret
      exact Upd.none HH.out (by repeat (first | exact HB.out _ | refine dN ?_ _ | refine bdrew ?_))
  · obtain ⟨q1, q2⟩ := z_no h1
    rw [if_neg (fun h => h1 h.1)]
    by_cases h2 : ep = (m.x.ep : Int)
    · obtain ⟨q3, q4⟩ := z_yes h2
      by_cases h3 : m.x.ph = 3
      · obtain ⟨q5, q6⟩ := z_yes (show (m.x.ph : Int) = 3 by omega)
        rw [if_pos ⟨h2, h3⟩]
        clear h1 h2 h3 hxv hmp h hv hvl hsl hf hl n2
        go_enter Try.func44, Try.ntmps44
        go_wp2_with fail
        go_quiet (fail)
        go_wp2_with fail
        go_quiet (fail)
        go_wp2_with fail
        go_quiet (fail)
        go_wp2_with fail
        refine still_tail 9 (by kernel_rfl) (by kernel_rfl) ?_
        simp only [List.take_succ_cons, List.take_zero, List.drop_succ_cons, List.drop_zero]
        repeat still_step
        refine wpStill_nil ?_
        go_wp2_with fail
        go_ret
        refine Upd.pre (Upd.keep (l := [⟨3, v, f, m.x.ep⟩]) (HH.out.new_ ?_) (own_lit _ ⟨3, v, f, m.x.ep⟩ _ (by simp)) ((Below.refl _ _).alloc (Nat.le_refl _) _)) ?_
        all_goals (repeat (first | exact HB.out _ | refine dN ?_ _ | refine bdrew ?_))
      · obtain ⟨q5, q6⟩ := z_no (show (m.x.ph : Int) ≠ 3 by omega)
        rw [if_neg (fun h => h3 h.2)]
        clear h1 h2 h3 hxv hmp h hv hvl hsl hf hl n2
        go_enter Try.func44, Try.ntmps44
        go_wp2_with fail
        go_quiet (fail)
        go_wp2_with fail
        go_quiet (fail)
        go_wp2_with fail
        go_quiet (fail)
        go_wp2_with fail
        go_ret
        exact Upd.none HH.out (by repeat (first | exact HB.out _ | refine dN ?_ _ | refine bdrew ?_))
    · obtain ⟨q3, q4⟩ := z_no h2
      rw [if_neg (fun h => h2 h.1)]
      clear h1 h2 hxv hmp h hv hvl hsl hf hl n2
      go_enter Try.func44, Try.ntmps44
      go_wp2_with fail
      go_quiet (fail)
      go_wp2_with fail
      go_quiet (fail)
      go_wp2_with fail
      go_quiet (fail)
      go_wp2_with fail
      go_ret
      exact Upd.none HH.out (by repeat (first | exact HB.out _ | refine dN ?_ _ | refine bdrew ?_))
set_option maxRecDepth 100000 in
set_option maxHeartbeats 4000000 in
theorem recvCommit_c (w : World) (L : Lay) (M : List Nm) (k ep : Int) (f v : Nat) (m : Nm) (h : ChAt w L M) (hv : M[v]? = some m) (he : m.x.ep ≤ MaxEp) (hk : m.x.ph ≤ 3) :
    Calls Try.prog 45 #[.pointer (some ⟨L.b, 0, none⟩), .agg #[.int .i64 k, .int .i64 f, .int .i64 v, .int .i64 ep]] w (Upd w L M (recvCommitP L.P L.root (sns M) f v ep)) := by
  have HE := Kept.mk he
  have HH := Kept.mk h
  have HV := Kept.mk hv
  have HB := Kept.mk (box_below w (.cells #[.int .i64 k, .int .i64 f, .int .i64 v, .int .i64 ep] 39))
  have hxv := sns_get hv
  unfold MaxEp at he
  obtain ⟨pt, hpt, hN⟩ := h.node hv
  obtain ⟨b0, b1, b2, b3, c0, n0, n1, n2, n3, -, vl, sm, zb, zC, zN, pl, nb, nc⟩ := hN
  clear hpt b0 b1 b2 c0 n3 n2 h hv
  unfold recvCommitP
  rw [hxv]
  by_cases h1 : ep = (m.x.ep : Int) + 1
  · obtain ⟨q1, q2⟩ := z_yes h1
    by_cases h2 : m.x.ph = 2
    · obtain ⟨q3, q4⟩ := z_yes (show (m.x.ph : Int) = 2 by omega)
      rw [if_pos ⟨h1, h2⟩]
      clear h1 h2 hxv
      go_enter Try.func45, Try.ntmps45
      go_wp2_with fail
      go_quiet (fail)
      go_wp2_with fail
      go_quiet (fail)
      go_wp2_with (go_at_call 65; refine (commit_c _ L _ v _ (HH.out.new_ (by repeat (first | exact HB.out _ | refine dN ?_ _ | refine bdrew ?_))) HV.out HE.out).mono ?_; rintro e w1 hu; obtain ⟨A, kap, rfl, hu2⟩ := Upd.ret (Upd.pre hu (by repeat (first | exact HB.out _ | refine dN ?_ _ | refine bdrew ?_))); have HU := Kept.mk hu2; clear hu hu2)
      go_ret
      exact HU.out
    · obtain ⟨q3, q4⟩ := z_no (show (m.x.ph : Int) ≠ 2 by omega)
      obtain ⟨q5, q6⟩ := z_no (show ep ≠ (m.x.ep : Int) by omega)
      rw [if_neg (fun h => h2 h.2), if_neg (fun h => by have := h.1; omega)]
      clear h1 h2 hxv
      go_enter Try.func45, Try.ntmps45
      go_wp2_with fail
      go_quiet (fail)
      go_wp2_with fail
      go_quiet (fail)
      go_wp2_with fail
      go_quiet (fail)
      go_wp2_with fail
      go_ret
      exact Upd.none HH.out (by repeat (first | exact HB.out _ | refine dN ?_ _ | refine bdrew ?_))
  · obtain ⟨q1, q2⟩ := z_no h1
    rw [if_neg (fun h => h1 h.1)]
    by_cases h2 : ep = (m.x.ep : Int)
    · obtain ⟨q3, q4⟩ := z_yes h2
      by_cases h3 : m.x.ph = 0
      · obtain ⟨q5, q6⟩ := z_yes (show (m.x.ph : Int) = 0 by omega)
        rw [if_pos ⟨h2, h3⟩]
        clear h1 h2 h3 hxv
        go_enter Try.func45, Try.ntmps45
        go_wp2_with fail
        go_quiet (fail)
        go_wp2_with fail
        go_quiet (fail)
        go_wp2_with fail
        go_quiet (fail)
        go_wp2_with fail
        refine still_tail 7 (by kernel_rfl) (by kernel_rfl) ?_
        simp only [List.take_succ_cons, List.take_zero, List.drop_succ_cons, List.drop_zero]
        repeat still_step
        refine wpStill_nil ?_
        go_wp2_with (go_at_call 49; refine (rise_c _ L _ v _ 4 (m.x.ep : Int) (HH.out.new_ (by repeat (first | exact HB.out _ | refine dN ?_ _ | refine bdrew ?_))) HV.out).mono ?_; rintro e w1 ⟨A, kap, rfl, ho, hb⟩; have HR := Kept.mk (Upd.pre (Upd.keep (HH.out.new_ (by repeat (first | exact HB.out _ | refine dN ?_ _ | refine bdrew ?_))) ho hb) (by repeat (first | exact HB.out _ | refine dN ?_ _ | refine bdrew ?_))); clear ho hb)
        go_ret
        exact HR.out
      · obtain ⟨q5, q6⟩ := z_no (show (m.x.ph : Int) ≠ 0 by omega)
        rw [if_neg (fun h => h3 h.2)]
        clear h1 h2 h3 hxv
        go_enter Try.func45, Try.ntmps45
        go_wp2_with fail
        go_quiet (fail)
        go_wp2_with fail
        go_quiet (fail)
        go_wp2_with fail
        go_quiet (fail)
        go_wp2_with fail
        go_ret
        exact Upd.none HH.out (by repeat (first | exact HB.out _ | refine dN ?_ _ | refine bdrew ?_))
    · obtain ⟨q3, q4⟩ := z_no h2
      rw [if_neg (fun h => h2 h.1)]
      clear h1 h2 hxv
      go_enter Try.func45, Try.ntmps45
      go_wp2_with fail
      go_quiet (fail)
      go_wp2_with fail
      go_quiet (fail)
      go_wp2_with fail
      go_quiet (fail)
      go_wp2_with fail
      go_ret
      exact Upd.none HH.out (by repeat (first | exact HB.out _ | refine dN ?_ _ | refine bdrew ?_))
set_option maxRecDepth 100000 in
set_option maxHeartbeats 4000000 in
theorem recvDone_c (w : World) (L : Lay) (M : List Nm) (k ep : Int) (f v : Nat) (m : Nm) (h : ChAt w L M) (hv : M[v]? = some m) (he : m.x.ep ≤ MaxEp) (hk : m.x.ph ≤ 3) (hf : f ≤ 1000000) (hl : m.x.an.length ≤ 1000000) :
    Calls Try.prog 46 #[.pointer (some ⟨L.b, 0, none⟩), .agg #[.int .i64 k, .int .i64 f, .int .i64 v, .int .i64 ep]] w (Upd w L M (recvDoneP L.P L.root (sns M) f v ep)) := by
  have HE := Kept.mk he
  have HH := Kept.mk h
  have HV := Kept.mk hv
  have HB := Kept.mk (box_below w (.cells #[.int .i64 k, .int .i64 f, .int .i64 v, .int .i64 ep] 39))
  have hxv := sns_get hv
  unfold MaxEp at he
  obtain ⟨pt, hpt, hN⟩ := h.node hv
  obtain ⟨b0, b1, b2, b3, c0, n0, n1, n2, n3, -, vl, sm, zb, zC, zN, pl, nb, nc⟩ := hN
  have hwf := wfN hf
  have hvl := vlt h hv
  have HL := Kept.mk hl
  have HGS := Kept.mk (get_self hvl (ansN m f))
  have HS : Kept (sns (M.set v (ansN m f)) = (sns M).set v { m.x with an := addA m.x.an f }) := ⟨sns_set _ _ _⟩
  have HSL := Kept.mk (fun g => sl_set (L := L) (m' := ansN m f) (B := w.heap.size) hv (.inl rfl) g)
  have hmp := h.maps m (nmem h hv)
  clear hpt b0 b1 b2 c0 n3
  unfold recvDoneP answerP
  rw [hxv]
  by_cases h1 : ep = (m.x.ep : Int)
  · obtain ⟨q1, q2⟩ := z_yes h1
    by_cases h2 : m.x.ph = 3
    · obtain ⟨q3, q4⟩ := z_yes (show (m.x.ph : Int) = 3 by omega)
      have HPH := Kept.mk h2
      obtain ⟨g, hg, hmap⟩ := hmp (.inr h2)
      have HM := Kept.mk hmap
      have hgl := (h.mlt m (nmem h hv) g hg).1
      have HBX : Kept (Blk (w.alloc (.cells #[.int .i64 k, .int .i64 f, .int .i64 v, .int .i64 ep] 39)) w.heap.size 39 #[.int .i64 k, .int .i64 f, .int .i64 v, .int .i64 ep]) := ⟨Blk.new _ _ _⟩
      have HG := Kept.mk hg
      rw [hg] at n2
      rw [if_pos ⟨h1, h2⟩]
      clear h1 h2 hxv hmap hg hmp h hv hvl hf hl
      go_enter Try.func46, Try.ntmps46
      go_wp2_with fail
      go_quiet (fail)
      go_wp2_with fail
      go_quiet (fail)
      go_wp2_with fail
      refine still_tail 6 (by kernel_rfl) (by kernel_rfl) ?_
      simp only [List.take_succ_cons, List.take_zero, List.drop_succ_cons, List.drop_zero]
      repeat still_step
      refine wpStill_nil ?_
      go_wp2_with (first | (at_mapUpdate; refine wpList_setI rfl _ _ _ 87 rfl 3 4 Try.underlying3 Try.underlying87 g _ (anF m.x.an) rfl (MapAt.new_ HM.out (by repeat (first | exact HB.out _ | refine dN ?_ _ | refine bdrew ?_))) (by unfold maxLen; have := HL.out; omega) (f : Int) _ rfl rfl hwf ?_; intro w3 hm3 hg3; have HA := Kept.mk (answer_at HH.out HV.out HG.out (by repeat (first | exact HB.out _ | refine dN ?_ _ | refine bdrew ?_)) hg3 hm3); have hb3 := Blk.grown (w' := w3) (t := 39) (g := w.heap.size) (cs := #[.int .i64 k, .int .i64 f, .int .i64 v, .int .i64 ep]) (by repeat (first | exact HBX.out | refine Blk.drewN ?_ _ | refine Blk.drew ?_)) hg3 (by intro e; injection e with e; omega); have k2 := hb3.cell 2 (v := .int .i64 v) rfl; have k2z := hb3.lt; clear hb3 hm3 hg3) | (go_at_call 47; refine (settle_c _ L _ v _ HA.out.1 HGS.out HPH.out HE.out).mono ?_; rintro e w5 hu; rw [HS.out] at hu; obtain ⟨A, kap, rfl, hu2⟩ := Upd.ret (Upd.after hu HA.out.2 HSL.out); have HU := Kept.mk hu2; clear hu hu2))
      go_ret
      exact HU.out
    · obtain ⟨q3, q4⟩ := z_no (show (m.x.ph : Int) ≠ 3 by omega)
      rw [if_neg (fun h => h2 h.2)]
      clear h1 h2 hxv hmp h hv hvl hf hl n2
      go_enter Try.func46, Try.ntmps46
      go_wp2_with fail
      go_quiet (fail)
      go_wp2_with fail
      go_quiet (fail)
      go_wp2_with fail
      go_ret
      exact Upd.none HH.out (by repeat (first | exact HB.out _ | refine dN ?_ _ | refine bdrew ?_))
  · obtain ⟨q1, q2⟩ := z_no h1
    rw [if_neg (fun h => h1 h.1)]
    clear h1 hxv hmp h hv hvl hf hl n2
    go_enter Try.func46, Try.ntmps46
    go_wp2_with fail
    go_quiet (fail)
    go_wp2_with fail
    go_quiet (fail)
    go_wp2_with fail
    go_ret
    exact Upd.none HH.out (by repeat (first | exact HB.out _ | refine dN ?_ _ | refine bdrew ?_))
end Go.Proofs.Ytibmbhnpmfgclaa
