/- The certificate is fairness, and the exchange rests at the fair rates: the plain law of WholeRates. -/
import Derived.Test.YtjalegdfofogcaaLawQ
import Derived.Test.YtjalegdfofogcaaMakZ
import Derived.Test.YtjalegdfofogcaaLvlB
import Derived.Test.YtjalegdfofogcaaExcN
namespace Go.Proofs.Ytjalegdfofogcaa
set_option linter.unusedVariables false
set_option linter.unusedSimpArgs false
open Go.RowKit
theorem cmp_le {a b : Rq} (ha : okQ a = true) (hb : okQ b = true) : cmpQ a b ≤ 0 ↔ val a ≤ val b := by
  obtain ⟨h1, h2⟩ := cmpQ_val ha hb
  constructor
  · intro h
    by_cases e : cmpQ a b = 0
    · rw [h2.1 e]; exact Rat.le_refl
    · exact Rat.le_of_lt (h1.1 (by omega))
  · intro h
    by_cases e : val a = val b
    · rw [h2.2 e]; exact Int.le_refl _
    · have := h1.2 (by grind)
      omega
theorem load_ok (n : PNet) (rs : List Rq) : AllOk (loadP n rs).1 := ldK_ok n rs _
theorem val_n {r : Rq} (h : okQ r = true) : 0 ≤ r.n ↔ 0 ≤ val r := by
  constructor
  · exact val_pos h
  · intro hv
    refine Classical.byContradiction fun hn => ?_
    obtain ⟨h1, h2⟩ := val_eq_div h
    have h3 := Rat.mul_nonneg hv (Rat.le_of_lt (Rat.natCast_pos.2 h2))
    rw [h1] at h3
    have h4 : (r.n : Rat) < 0 := Rat.intCast_neg_iff.2 (by omega)
    grind
section
variable {n : PNet} {rs : List Rq}
theorem rs_ok (hro : AllOk rs) (i : Nat) : okQ (rs.getD i rq0) = true := hro.getD i
theorem cap_okQ (hv : netOk n = true) {l : Nat} (hl : l < n.caps.length) : okQ (n.caps.getD l rq0) = true := by
  obtain ⟨c, hc⟩ := get_some hl
  have := cap_ok hv (List.mem_of_getElem? hc)
  unfold capOk at this
  rw [Bool.and_eq_true] at this
  rw [List.getD_eq_getElem?_getD, hc]
  exact this.1
theorem feas_iff (hv : netOk n = true) (hro : AllOk rs) (hle : (loadP n rs).2 = 0) : feasB n rs = true ↔ Feas (anet n) (rt rs) := by
  have hld : ∀ l, l < n.caps.length → (ldOk n rs l = true ↔ ldA (anet n) (rt rs) l ≤ (anet n).C l) := fun l hl => by
    unfold ldOk
    rw [decide_eq_true_eq, cmp_le ((load_ok n rs).getD l) (cap_okQ hv hl), ← load_val (netOk_links hv) hle hl]
    rfl
  have hfz : ∀ i, i < n.flows.length → (fzOk n rs i = true ↔ 0 ≤ rt rs i ∧ ((anet n).bd i = true → rt rs i ≤ (anet n).dm i)) := fun i hi => by
    unfold fzOk
    rw [Bool.and_eq_true, decide_eq_true_eq, val_n (rs_ok hro i)]
    have hd := (flow_num hv hi).1
    have hbd : (anet n).bd i = (flo n i).b := rfl
    have hdm : (anet n).dm i = val (flo n i).d := rfl
    rw [hbd, hdm]
    refine and_congr Iff.rfl ?_
    cases hb : (flo n i).b with
    | false => simp
    | true =>
      simp only [Bool.true_and, Bool.not_eq_true', decide_eq_false_iff_not, forall_const]
      show ¬ 0 < cmpQ (rs.getD i rq0) (flo n i).d ↔ val (rs.getD i rq0) ≤ val (flo n i).d
      rw [← cmp_le (rs_ok hro i) hd]
      omega
  unfold feasB
  rw [Bool.and_eq_true, Bool.and_eq_true, decide_eq_true_eq, List.all_eq_true, List.all_eq_true]
  constructor
  · rintro ⟨_, h1, h2⟩
    exact ⟨fun i hi => ((hfz i hi).1 (h1 i (List.mem_range.2 hi))).1, fun i hi => ((hfz i hi).1 (h1 i (List.mem_range.2 hi))).2, fun l hl => (hld l hl).1 (h2 l (List.mem_range.2 hl))⟩
  · rintro h
    exact ⟨hle, fun i hi => (hfz i (List.mem_range.1 hi)).2 ⟨h.nn i (List.mem_range.1 hi), h.dem i (List.mem_range.1 hi)⟩, fun l hl => (hld l (List.mem_range.1 hl)).2 (h.cap l (List.mem_range.1 hl))⟩
theorem hold_dem (hv : netOk n = true) (hro : AllOk rs) {i : Nat} (hi : i < n.flows.length) : holdB n rs i (-1) = true ↔ RsnD (anet n) (rt rs) i := by
  unfold holdB RsnD
  rw [if_pos rfl, Bool.and_eq_true, beq_iff_eq, (cmpQ_val (rs_ok hro i) (flow_num hv hi).1).2]
  rfl
theorem hold_link (hv : netOk n = true) (hro : AllOk rs) (hle : (loadP n rs).2 = 0) {i l : Nat} (hi : i < n.flows.length) (hl : l < n.caps.length) : holdB n rs i (l : Int) = true ↔ RsnL (anet n) (rt rs) i l := by
  unfold holdB RsnL
  rw [if_neg (by omega), Bool.and_eq_true, Bool.and_eq_true, List.all_eq_true]
  have hu : ∀ j, j < n.flows.length → (anet n).us j l = (flo n j).ls.contains (l : Int) := fun j hj => uses_of (flo_mem hj).1
  rw [hu i hi]
  refine and_congr Iff.rfl (and_congr ?_ ?_)
  · unfold fullB
    rw [Bool.and_eq_true, decide_eq_true_eq, beq_iff_eq, Int.toNat_natCast, (cmpQ_val ((load_ok n rs).getD l) (cap_okQ hv hl)).2]
    have := load_val (netOk_links hv) hle hl
    constructor
    · rintro ⟨_, h⟩; rw [← this]; exact h
    · intro h; exact ⟨hle, by rw [show val ((loadP n rs).1.getD l rq0) = _ from this]; exact h⟩
  · have hc : ∀ j, j < n.flows.length → (cmpHold n rs i (l : Int) j = true ↔ ((anet n).us j l = true → rt rs j ≤ rt rs i)) := fun j hj => by
      unfold cmpHold
      rw [hu j hj]
      cases (flo n j).ls.contains (l : Int) with
      | false => simp
      | true =>
        simp only [Bool.true_and, Bool.not_eq_true', decide_eq_false_iff_not, forall_const]
        show ¬ 0 < cmpQ (rs.getD j rq0) (rs.getD i rq0) ↔ val (rs.getD j rq0) ≤ val (rs.getD i rq0)
        rw [← cmp_le (rs_ok hro j) (rs_ok hro i)]
        omega
    constructor
    · intro h j hj
      exact (hc j hj).1 (h j (List.mem_range.2 hj))
    · intro h j hj
      exact (hc j (List.mem_range.1 hj)).2 (h j (List.mem_range.1 hj))
theorem make_iff (hv : netOk n = true) (hro : AllOk rs) (hle : (loadP n rs).2 = 0) : makeB n rs = true ↔ FairA (anet n) (rt rs) := by
  have hlk := netOk_links hv
  constructor
  · intro h
    refine ⟨(feas_iff hv hro hle).1 (make_feas h), fun i hi => ?_⟩
    obtain ⟨h1, h2⟩ := make_hold h hi
    unfold tries at h2
    rcases List.mem_cons.1 h2 with h3 | h3
    · rw [h3] at h1
      exact Or.inl ((hold_dem hv hro hi).1 h1)
    · obtain ⟨h4, h5⟩ := hlk.rg _ (flo_mem hi).2 _ h3
      obtain ⟨l, hl⟩ : ∃ l : Nat, rsnOf n rs i = l := ⟨(rsnOf n rs i).toNat, by omega⟩
      rw [hl] at h1 h5
      exact Or.inr ⟨l, by show l < n.caps.length; omega, (hold_link hv hro hle hi (by omega)).1 h1⟩
  · rintro ⟨h1, h2⟩
    unfold makeB
    rw [Bool.and_eq_true, List.all_eq_true]
    refine ⟨(feas_iff hv hro hle).2 h1, fun i hi => ?_⟩
    have hi' := List.mem_range.1 hi
    unfold rsnK
    rw [List.findIdx?_isSome, List.any_eq_true]
    rcases h2 i hi' with h3 | ⟨l, hl, h3⟩
    · exact ⟨-1, by unfold tries; simp, (hold_dem hv hro hi').2 h3⟩
    · refine ⟨(l : Int), ?_, (hold_link hv hro hle hi' hl).2 h3⟩
      unfold tries
      refine List.mem_cons_of_mem _ ?_
      have hu : usesL n.flows i l = true := h3.1
      rw [uses_of (flo_mem hi').1] at hu
      exact List.contains_iff_mem.1 hu
/-- With another rate of one flow there is no certificate. -/
theorem other_no (hv : netOk n = true) (hro : AllOk rs) (hrl : rs.length = n.flows.length) (hx : FairA (anet n) (rt rs)) {k : Nat} (hk : k < n.flows.length) {rate : Rq} (hr : okQ rate = true) (hm : makeB n (rs.set k rate) = true) : cmpQ rate (rs.getD k rq0) = 0 := by
  have hro' : AllOk (rs.set k rate) := hro.set k hr
  have hle := feas_load (make_feas hm)
  have hy := (make_iff hv hro' hle).1 hm
  have hg : ∀ i, rt (rs.set k rate) i = if k = i then val rate else rt rs i := fun i => by
    show val ((rs.set k rate).getD i rq0) = _
    rw [getD_set (by omega)]
    by_cases e : k = i
    · rw [if_pos e, if_pos e]
    · rw [if_neg e, if_neg e]; rfl
  have := fair_one (k := k) (by show k < n.flows.length; exact hk) hx hy (fun i hi hne => by rw [hg, if_neg (fun e => hne e.symm)])
  rw [hg, if_pos rfl] at this
  exact (cmpQ_val hr (rs_ok hro k)).2.2 this
end
/-- The filling's rates: valid numbers, a fair certificate. -/
structure Filled (n : PNet) (rs : List Rq) : Prop where
  len : rs.length = n.flows.length
  ok : AllOk rs
  fair : FairA (anet n) (rt rs)
  load : (loadP n rs).2 = 0
  make : makeB n rs = true
theorem filled {n : PNet} (hv : netOk n = true) (hn : NetOk n) {m : Nat} (hm : Fin n m) : Filled n (itr n m).1 := by
  have hs := itr_ok hn m hm.1
  have hm5 : m ≤ 5 := Nat.le_trans hs.many (Nat.le_trans (tr_le _ _) hn.nf)
  have hall : ∀ i, i < n.flows.length → (itr n m).2[i]? = some true := fun i hi => by
    have h1 : isF (itr n m).2 i = true := all_frozen hs.lz hm.2 hi
    obtain ⟨b, hb⟩ := get_some (show i < (itr n m).2.length by rw [hs.lz]; exact hi)
    rw [isF_of hb] at h1
    rw [hb, h1]
  have hg : ∀ i r, (itr n m).1[i]? = some r → okQ r = true ∧ Gd (DD m) (MM m) (val r) := fun i r hr => by
    have hi : i < n.flows.length := by rw [← hs.lr]; exact (List.getElem?_eq_some_iff.1 hr).1
    exact hs.rates i r (hall i hi) hr
  have hro : AllOk (itr n m).1 := fun r hr => by
    obtain ⟨i, hi⟩ := List.getElem?_of_mem hr
    exact (hg i r hi).1
  have hle : (loadP n (itr n m).1).2 = 0 := by
    obtain ⟨-, d1, d2⟩ := dd_12 hm5
    have m1 := mm_le hm5
    refine load_small (netOk_links hv) hn.nf (D := DD m) (M := MM m) (fun i hi => ?_) d1 (by omega) ?_
    · obtain ⟨r, hr⟩ := get_some (show i < (itr n m).1.length by rw [hs.lr]; exact hi)
      show Gd _ _ (val ((itr n m).1.getD i rq0))
      rw [List.getD_eq_getElem?_getD, hr]
      exact (hg i r hr).2
    · have := Nat.mul_le_mul (Nat.mul_le_mul_left 5 m1) d2
      omega
  have hf := fill_fair hn hm
  exact ⟨hs.lr, hro, hf, hle, (make_iff hv hro hle).2 hf⟩
theorem StepA.rest {N : AN} {s g : Nat → Option Rat} (h : StepA N s g) (he : ∀ l, l < N.nl → s l = g l) : StepA N s s := fun l hl => by
  obtain ⟨lim, h1, h2⟩ := h l hl
  exact ⟨lim, h1, by rw [he l hl]; exact h2⟩
/-- The exchange has come to rest when the bound is reached. -/
theorem run_bound {n : PNet} {rs : List Rq} (hf : Filled n rs) {f0 : Nat → Option Rat} (h0 : ∀ l, l < n.caps.length → ∀ v, f0 l = some v → 0 ≤ v) {g g' : Nat → Option Rat} (h : Rch (anet n) f0 (2 * (n.caps.length + n.flows.length) + 2) g) (hs : StepA (anet n) g g') : ∀ l, l < n.caps.length → g l = g' l := by
  intro l hl
  have h' := h.next hs
  obtain ⟨f, e0, e1, e2⟩ := h
  obtain ⟨f', e0', e1', e2'⟩ := h'
  have a1 := rest_at (N := anet n) (x := rt rs) (s := f) hf.fair (by rw [e0]; exact h0) (K := 2 * (n.caps.length + n.flows.length) + 2) (by show 2 * n.flows.length < _; omega) e2 _ (by show 2 * n.flows.length < _; omega) (Nat.le_refl _) l hl
  have a2 := rest_at (N := anet n) (x := rt rs) (s := f') hf.fair (by rw [e0']; exact h0) (K := 2 * (n.caps.length + n.flows.length) + 2 + 1) (by show 2 * n.flows.length < _; omega) e2' _ (by show 2 * n.flows.length < _; omega) (Nat.le_refl _) l hl
  rw [e1] at a1
  rw [e1'] at a2
  rw [a1, a2]
/-- A state at rest is the star. -/
theorem rest_star {n : PNet} {rs : List Rq} (hf : Filled n rs) {f0 g g' : Nat → Option Rat} (h0 : ∀ l, l < n.caps.length → ∀ v, f0 l = some v → 0 ≤ v) {k : Nat} (h : Rch (anet n) f0 k g) (hs : StepA (anet n) g g') (he : ∀ l, l < n.caps.length → g l = g' l) : ∀ l, l < n.caps.length → g l = starA (anet n) (rt rs) l := by
  have hr := hs.rest he
  have hd : ∀ d, Rch (anet n) f0 (k + d) g := by
    intro d
    induction d with
    | zero => exact h
    | succ d ih => exact ih.next hr
  obtain ⟨f, e0, e1, e2⟩ := hd (2 * n.flows.length + 1)
  intro l hl
  have := rest_at (N := anet n) (x := rt rs) (s := f) hf.fair (by rw [e0]; exact h0) (K := k + (2 * n.flows.length + 1)) (by show 2 * n.flows.length < _; omega) e2 _ (by show 2 * n.flows.length < _; omega) (Nat.le_refl _) l hl
  rw [e1] at this
  exact this
/-- The rates of a state at rest are the filling's. -/
theorem star_rates {n : PNet} {rs : List Rq} {t : PSt} (hv : netOk n = true) (hf : Filled n rs) (ht : StNum n.caps.length t) (hs : ∀ l, l < n.caps.length → shO t l = starA (anet n) (rt rs) l) {i : Nat} (hi : i < n.flows.length) : (lsF n t i (-1)).2 = true ∧ okQ (lsF n t i (-1)).1 = true ∧ val (lsF n t i (-1)).1 = rt rs i := by
  obtain ⟨h1, h2, h3⟩ := lsF_lim (i := i) (l := n.caps.length) (other := -1) (netOk_links hv) ht hi (flow_num hv hi).1 (flow_num hv hi).2 (fun l' hl' => by omega)
  have h4 := star_rate (N := anet n) (x := rt rs) (s := shO t) hf.fair hs (i := i) hi h3
  cases hb : (lsF n t i (-1)).2 with
  | false => rw [hb] at h4; simp at h4
  | true =>
    rw [hb] at h4
    simp only [if_true, Option.some.injEq] at h4
    exact ⟨rfl, h1, h4⟩
end Go.Proofs.Ytjalegdfofogcaa
