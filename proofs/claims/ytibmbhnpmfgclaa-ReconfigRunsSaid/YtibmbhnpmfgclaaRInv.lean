/- Reconfig: what every step keeps, and how far it goes. No program in sight. -/
import Derived.Test.YtibmbhnpmfgclaaRPlain
namespace Go.Proofs.Ytibmbhnpmfgclaa
set_option linter.unusedVariables false
set_option linter.unusedSimpArgs false
def phi (P : List Int) (x : Sn) (v : Nat) : Int :=
  (x.ep : Int) * (4 + 2 * ((kids P v).length : Int)) + (if x.ph = 0 then 0 else if x.ph = 1 then 1 + (x.an.length : Int) else if x.ph = 2 then 2 + ((kids P v).length : Int) else (x.an.length : Int) - 1 - (kids P v).length)
def Phi (P : List Int) (ns : List Sn) : Nat → Int
  | 0 => 0
  | n + 1 => Phi P ns n + phi P (nd ns n) n
theorem Phi_set {P : List Int} {ns : List Sn} {v : Nat} (hv : v < ns.length) (x : Sn) (n : Nat) : Phi P (ns.set v x) n = Phi P ns n + if v < n then phi P x v - phi P (nd ns v) v else 0 := by
  induction n with
  | zero => simp [Phi]
  | succ n ih =>
    unfold Phi
    rw [ih, nd_set hv]
    by_cases e : n = v
    · subst e; rw [if_pos rfl, if_neg (by omega), if_pos (by omega)]; omega
    · rw [if_neg e]
      by_cases h : v < n
      · rw [if_pos h, if_pos (by omega)]; omega
      · rw [if_neg h, if_neg (by omega)]; omega
structure Good (P : List Int) (ns : List Sn) (o : OutP) : Prop where
  inv : Inv P o.1
  le : Le ns o.1
  msg : ∀ m, m ∈ o.2 → MOk P o.1 m
  up : o.1 = ns ∨ Phi P ns P.length < Phi P o.1 P.length
  tr : ∀ v, ((nd o.1 v).dr = true → (nd ns v).dr = true ∧ (nd o.1 v).ep = (nd ns v).ep) ∧ ((nd o.1 v).ph = 0 → (nd o.1 v).ep = (nd ns v).ep ∧ ((nd ns v).ph = 0 ∨ (nd ns v).dr = true))
  ev : ∀ v, (nd o.1 v).ep = (nd ns v).ep ∨ ((nd o.1 v).ph = 3 ∧ (nd ns v).ph ≤ 2)
  pv : ∀ v, (nd o.1 v).ph = 1 → (nd ns v).ph ≤ 1
section
variable {P : List Int} {ns : List Sn}
theorem good_stay (h : Inv P ns) {l : List Mg} (hm : ∀ m, m ∈ l → MOk P ns m) : Good P ns (ns, l) := ⟨h, Le.refl _, hm, .inl rfl, fun v => ⟨fun h => ⟨h, rfl⟩, fun h => ⟨rfl, .inl h⟩⟩, fun _ => .inl rfl, fun v e => by have e : (nd ns v).ph = 1 := e; omega⟩
theorem set_same {v : Nat} (hv : v < ns.length) : ns.set v (nd ns v) = ns := by
  apply List.ext_getElem?
  intro i
  rw [List.getElem?_set]
  by_cases e : v = i
  · subst e; rw [if_pos rfl, if_pos hv, nd_some hv]
  · rw [if_neg e]
theorem good_set (h : Inv P ns) (ht : Tree P) {v : Nat} (hv : v < P.length) {x : Sn} {l : List Mg} (hw : Wf P x v) (hk : ∀ i, i ∈ kids P v → Rel x (nd ns i) i) (hp : ∀ p, v ∈ kids P p → Rel (nd ns p) x v)
    (hs : stg (nd ns v) ≤ stg x) (he : (nd ns v).ep ≤ x.ep) (he1 : x.ep ≤ (nd ns v).ep + 1) (hf : phi P (nd ns v) v < phi P x v) (hm : ∀ m, m ∈ l → m.frm = v ∧ 4 * (m.ep - 1) + m.kind ≤ stg x)
    (hdr : x.dr = true → (nd ns v).dr = true ∧ x.ep = (nd ns v).ep) (h0 : x.ph = 0 → x.ep = (nd ns v).ep ∧ ((nd ns v).ph = 0 ∨ (nd ns v).dr = true)) (hev : x.ep = (nd ns v).ep ∨ (x.ph = 3 ∧ (nd ns v).ph ≤ 2)) (hpv : x.ph = 1 → (nd ns v).ph ≤ 1) : Good P ns (ns.set v x, l) := by
  have hv' : v < ns.length := by rw [h.len]; exact hv
  refine ⟨h.set ht hv hw hk hp, le_set hv' hs he he1, fun m hm' => ?_, .inr ?_, fun u => ?_, fun u => ?_, fun u => ?_⟩
  · obtain ⟨h1, h2⟩ := hm m hm'
    refine ⟨by rw [h1]; omega, by rw [h1]; omega, ?_⟩
    show _ ≤ stg (nd (ns.set v x) m.frm.toNat)
    rw [nd_set hv', h1, if_pos (by simp)]; exact h2
  · show _ < Phi P (ns.set v x) P.length
    rw [Phi_set hv', if_pos hv]; omega
  · show ((nd (ns.set v x) u).dr = true → (nd ns u).dr = true ∧ (nd (ns.set v x) u).ep = (nd ns u).ep) ∧ ((nd (ns.set v x) u).ph = 0 → (nd (ns.set v x) u).ep = (nd ns u).ep ∧ ((nd ns u).ph = 0 ∨ (nd ns u).dr = true))
    rw [nd_set hv']
    by_cases e : u = v
    · subst e; rw [if_pos rfl]; exact ⟨hdr, h0⟩
    · rw [if_neg e]; exact ⟨fun h => ⟨h, rfl⟩, fun h => ⟨rfl, .inl h⟩⟩
  · show (nd (ns.set v x) u).ep = (nd ns u).ep ∨ ((nd (ns.set v x) u).ph = 3 ∧ (nd ns u).ph ≤ 2)
    rw [nd_set hv']
    by_cases e : u = v
    · subst e; rw [if_pos rfl]; exact hev
    · rw [if_neg e]; exact .inl rfl
  · show (nd (ns.set v x) u).ph = 1 → (nd ns u).ph ≤ 1
    rw [nd_set hv']
    by_cases e : u = v
    · subst e; rw [if_pos rfl]; exact hpv
    · rw [if_neg e]; exact fun h => by omega
theorem an_le (h : Inv P ns) {v : Nat} (hv : v < P.length) : (nd ns v).an.length ≤ (kids P v).length := sub_len (h.wf v hv).nd (h.wf v hv).sub
theorem mul_succ_ (a : Nat) (d : Int) : ((a + 1 : Nat) : Int) * d = (a : Int) * d + d := by
  rw [Int.natCast_add, Int.add_mul]; simp
theorem commit_good (h : Inv P ns) (ht : Tree P) {v : Nat} (hv : v < P.length) (hph : (nd ns v).ph ≤ 2) (y : Sn) (hy : y.ep = (nd ns v).ep)
    (hk : ∀ i, i ∈ kids P v → (nd ns i).ph = 2 ∧ (nd ns i).ep = (nd ns v).ep) (hp : ∀ p, v ∈ kids P p → (nd ns p).ph = 3 ∧ (nd ns p).ep = (nd ns v).ep + 1 ∧ v ∉ (nd ns p).an) : Good P ns (commitP P (ns.set v y) v) := by
  have hv' : v < ns.length := by rw [h.len]; exact hv
  have ha := an_le h hv
  unfold commitP
  rw [nd_set hv', if_pos rfl, List.set_set, hy]
  refine good_set h ht hv ⟨by simp, List.nodup_nil, fun i hi => by simp at hi, fun e => by simp at e, fun _ e => by simp at e, fun _ => by simp, fun _ => by simp⟩ (fun i hi => ?_) (fun p hp' => ?_) ?_ (by simp) (by simp) ?_ (fun m hm => ?_) (fun e => by simp at e) (fun e => by simp at e) (.inr ⟨rfl, hph⟩) (fun e => by simp at e)
  · obtain ⟨h1, h2⟩ := hk i hi
    exact ⟨fun e => by simp at e, fun e => by simp at e, fun e => by simp at e, fun _ => ⟨.inl ⟨h1, by simp [h2]⟩, fun hi => by simp at hi⟩⟩
  · obtain ⟨h1, h2, h3⟩ := hp p hp'
    exact ⟨fun e => by omega, fun e => by omega, fun e => by omega, fun _ => ⟨.inr ⟨.inl rfl, by simp [h2]⟩, fun hi => absurd hi h3⟩⟩
  · unfold stg; simp; split <;> omega
  · unfold phi
    rw [mul_succ_]
    simp only [List.length_nil]
    generalize ((nd ns v).ep : Int) * _ = q
    rcases (by omega : (nd ns v).ph = 0 ∨ (nd ns v).ph = 1 ∨ (nd ns v).ph = 2) with e | e | e <;> rw [e] <;> simp <;> omega
  · obtain ⟨c, hc, _, rfl⟩ := mem_down hm
    refine ⟨rfl, ?_⟩
    unfold stg; simp <;> omega
theorem prepared_good (h : Inv P ns) (ht : Tree P) {v : Nat} (hv : v < P.length) (hph : (nd ns v).ph ≤ 1) (y : Sn) (hy : y.ep = (nd ns v).ep) (hyd : y.dr = true → (nd ns v).dr = true) (hn : y.an.Nodup) (hsub : ∀ i, i ∈ y.an → i ∈ kids P v)
    (hk : ∀ i, i ∈ kids P v → (nd ns i).ph = 2 ∧ (nd ns i).ep = (nd ns v).ep) (hp : ∀ p, v ∈ kids P p → (nd ns p).ph = 1 ∧ (nd ns p).ep = (nd ns v).ep) : Good P ns (preparedP P 0 (ns.set v y) v) := by
  have hv' : v < ns.length := by rw [h.len]; exact hv
  have ha := an_le h hv
  unfold preparedP
  by_cases e : v = 0
  · subst e
    rw [if_pos rfl]
    exact commit_good h ht hv (by omega) y hy hk (fun p hp' => absurd (ht.lt hp') (by omega))
  · rw [if_neg e, nd_set hv', if_pos rfl, List.set_set, hy]
    refine good_set h ht hv ⟨by simp, hn, hsub, fun e => by simp at e, fun e => by simp at e, fun e2 => absurd e2 e, fun e => by simp at e⟩ (fun i hi => ?_) (fun p hp' => ?_) ?_ (by simp [hy]) (by simp [hy]) ?_ (fun m hm => ?_) (fun e => ⟨hyd e, hy⟩) (fun e => by simp at e) (.inl hy) (fun e => by simp at e)
    · obtain ⟨h1, h2⟩ := hk i hi
      exact ⟨fun e => by simp at e, fun e => by simp at e, fun _ => ⟨h1, by simp [h2, hy]⟩, fun e => by simp at e⟩
    · obtain ⟨h1, h2⟩ := hp p hp'
      exact ⟨fun e => by omega, fun _ => ⟨by simp, by simp [h2, hy], fun _ => rfl⟩, fun e => by omega, fun e => by omega⟩
    · unfold stg; simp [hy]; split <;> omega
    · unfold phi
      simp only [hy]
      generalize ((nd ns v).ep : Int) * _ = q
      rcases (by omega : (nd ns v).ph = 0 ∨ (nd ns v).ph = 1) with e | e <;> rw [e] <;> simp <;> omega
    · unfold riseP at hm
      simp only [List.mem_singleton] at hm
      subst hm
      refine ⟨rfl, ?_⟩
      unfold stg; simp [hy] <;> omega
theorem prepare_good (h : Inv P ns) (ht : Tree P) {v : Nat} (hv : v < P.length) (hph : (nd ns v).ph = 0) (hp : ∀ p, v ∈ kids P p → (nd ns p).ph = 1 ∧ (nd ns p).ep = (nd ns v).ep) : Good P ns (prepareP P 0 ns v) := by
  have hv' : v < ns.length := by rw [h.len]; exact hv
  unfold prepareP
  by_cases hk0 : kids P v = []
  · rw [if_pos hk0]
    exact prepared_good h ht hv (by omega) _ (by rfl) (fun e => e) List.nodup_nil (fun i hi => by simp at hi) (fun i hi => by rw [hk0] at hi; simp at hi) hp
  · rw [if_neg hk0]
    have hpos : 0 < (kids P v).length := List.length_pos_iff.2 hk0
    refine good_set h ht hv ⟨by simp, List.nodup_nil, fun i hi => by simp at hi, fun _ => by simp; omega, fun e => by simp at e, fun _ => by simp, fun e => by simp at e⟩ (fun i hi => ?_) (fun p hp' => ?_) ?_ (by simp) (by simp) ?_ (fun m hm => ?_) (fun e => ⟨e, rfl⟩) (fun e => by simp at e) (.inl rfl) (fun _ => by omega)
    · obtain ⟨h1, h2⟩ := (h.rel v i hi).r0 hph
      exact ⟨fun e => by simp at e, fun _ => ⟨by omega, h2, fun hi => by simp at hi⟩, fun e => by simp at e, fun e => by simp at e⟩
    · obtain ⟨h1, h2⟩ := hp p hp'
      refine ⟨fun e => by omega, fun _ => ⟨by simp, by simp [h2], fun hi => ?_⟩, fun e => by omega, fun e => by omega⟩
      have := ((h.rel p v hp').r1 h1).2.2 hi
      omega
    · unfold stg; simp [hph] <;> omega
    · unfold phi
      simp only [hph]
      generalize ((nd ns v).ep : Int) * _ = q
      simp <;> omega
    · obtain ⟨c, hc, _, rfl⟩ := mem_down hm
      refine ⟨rfl, ?_⟩
      unfold stg; simp <;> omega
theorem settle_good (h : Inv P ns) (ht : Tree P) {v : Nat} (hv : v < P.length) (hph : (nd ns v).ph = 3) (l : List Nat) (hn : l.Nodup) (hsub : ∀ i, i ∈ l → i ∈ kids P v) (hge : (nd ns v).an.length ≤ l.length) (hup : (nd ns v).an.length = l.length → l = (nd ns v).an)
    (hk : ∀ i, i ∈ l → (nd ns i).ph = 0 ∧ (nd ns i).ep = (nd ns v).ep) : Good P ns (settleP P 0 (ns.set v { nd ns v with an := l }) v) := by
  have hv' : v < ns.length := by rw [h.len]; exact hv
  have ha := an_le h hv
  have hl := sub_len hn hsub
  unfold settleP
  rw [nd_set hv', if_pos rfl]
  have hpar : ∀ p, v ∈ kids P p → (nd ns p).ph = 3 ∧ (nd ns p).ep = (nd ns v).ep := fun p hp => by
    have hr := h.rel p v hp
    have := (h.wf p (ht.par hp).1).ph
    rcases (by omega : (nd ns p).ph = 0 ∨ (nd ns p).ph = 1 ∨ (nd ns p).ph = 2 ∨ (nd ns p).ph = 3) with e | e | e | e
    · have := hr.r0 e; omega
    · have := hr.r1 e; omega
    · have := hr.r2 e; omega
    · have := (hr.r3 e).1; exact ⟨e, by omega⟩
  by_cases hf : ((nd ns v).dr && fullB P { nd ns v with an := l } v) = true
  · rw [if_pos hf]
    simp only [Bool.and_eq_true, fullB, beq_iff_eq] at hf
    obtain ⟨hd, hf⟩ := hf
    rw [List.set_set]
    have hall := Wf.full (x := ⟨(nd ns v).ep, 3, l, true⟩) hn hsub hf
    have hw := h.wf v hv
    have hne := hw.c3 hph hd
    refine good_set h ht hv ⟨by simp, List.nodup_nil, fun i hi => by simp at hi, fun e => by simp at e, fun e => by simp at e, fun _ => by simp, fun e => by simp at e⟩ (fun i hi => ?_) (fun p hp' => ?_) ?_ (by simp) (by simp) ?_ (fun m hm => ?_) (fun e => by simp at e) (fun _ => ⟨rfl, .inr hd⟩) (.inl rfl) (fun e => by simp at e)
    · obtain ⟨h1, h2⟩ := hk i (hall i hi)
      exact ⟨fun _ => ⟨h1, h2⟩, fun e => by simp at e, fun e => by simp at e, fun e => by simp at e⟩
    · obtain ⟨h1, h2⟩ := hpar p hp'
      exact ⟨fun e => by omega, fun e => by omega, fun e => by omega, fun _ => ⟨.inr ⟨.inr rfl, h2.symm⟩, fun _ => ⟨rfl, h2.symm⟩⟩⟩
    · unfold stg; simp [hph] <;> omega
    · unfold phi
      simp only [hph]
      generalize ((nd ns v).ep : Int) * _ = q
      simp <;> omega
    · by_cases e : v = 0
      · rw [if_pos e] at hm; simp at hm
      · rw [if_neg e] at hm
        unfold riseP at hm
        simp only [List.mem_singleton] at hm
        subst hm
        refine ⟨rfl, ?_⟩
        unfold stg; simp <;> omega
  · rw [if_neg hf]
    by_cases he : (nd ns v).an.length = l.length
    · have hx : ({ nd ns v with an := l } : Sn) = nd ns v := Sn.ext_ rfl rfl (hup he) rfl
      rw [hx, set_same hv']
      exact good_stay h (fun m hm => by simp at hm)
    · have hw := h.wf v hv
      refine good_set h ht hv ⟨hw.ph, hn, hsub, fun e => by simp [hph] at e, fun _ e e2 => hf (by simp only [fullB, Bool.and_eq_true, beq_iff_eq]; exact ⟨e, e2⟩), hw.c2, hw.e3⟩ (fun i hi => ?_) (fun p hp' => ?_) (Int.le_refl _) (Nat.le_refl _) (Nat.le_succ _) ?_ (fun m hm => by simp at hm) (fun e => ⟨e, rfl⟩) (fun e => by simp [hph] at e) (.inl rfl) (fun e => by simp [hph] at e)
      · have hr := h.rel v i hi
        exact ⟨fun e => by simp [hph] at e, fun e => by simp [hph] at e, fun e => by simp [hph] at e, fun _ => ⟨(hr.r3 hph).1, fun hi => hk i hi⟩⟩
      · have hr := h.rel p v hp'
        exact ⟨hr.r0, hr.r1, hr.r2, hr.r3⟩
      · unfold phi
        simp only [hph]
        generalize ((nd ns v).ep : Int) * _ = q
        simp <;> omega
end
end Go.Proofs.Ytibmbhnpmfgclaa
