/- Fair rates as mathematics: nets, feasible rates, reasons, levels of a link. The loads of the links, plain: what Load reckons, and what it means. What water filling answers is fair: feasible, and each flow has a reason. -/
import Derived.Test.YtjalegdfofogcaaRatV
import Derived.Test.YtjalegdfofogcaaLawB
namespace Go.Proofs.Ytjalegdfofogcaa
set_option linter.unusedVariables false
set_option linter.unusedSimpArgs false
/-- A net: its links and flows, capacities, who uses what, demands. -/
structure AN where
  nl : Nat
  nf : Nat
  C : Nat → Rat
  us : Nat → Nat → Bool
  bd : Nat → Bool
  dm : Nat → Rat
def sumTo (f : Nat → Rat) : Nat → Rat
  | 0 => 0
  | k + 1 => sumTo f k + f k
theorem sumTo_le {f g : Nat → Rat} : ∀ k, (∀ i, i < k → f i ≤ g i) → sumTo f k ≤ sumTo g k
  | 0, _ => by unfold sumTo; exact Rat.le_refl
  | k + 1, h => by
    have h1 := sumTo_le k (fun i hi => h i (by omega))
    have h2 := h k (by omega)
    unfold sumTo
    grind
theorem sumTo_lt {f g : Nat → Rat} : ∀ k, (∀ i, i < k → f i ≤ g i) → (∃ i, i < k ∧ f i < g i) → sumTo f k < sumTo g k
  | 0, _, h => by obtain ⟨i, hi, _⟩ := h; omega
  | k + 1, h, ⟨i, hi, hlt⟩ => by
    have h2 := h k (by omega)
    unfold sumTo
    by_cases e : i = k
    · subst e
      have h1 := sumTo_le i (fun j hj => h j (by omega))
      grind
    · have h1 := sumTo_lt k (fun j hj => h j (by omega)) ⟨i, by omega, hlt⟩
      grind
theorem sumTo_congr {f g : Nat → Rat} : ∀ k, (∀ i, i < k → f i = g i) → sumTo f k = sumTo g k
  | 0, _ => rfl
  | k + 1, h => by
    unfold sumTo
    rw [sumTo_congr k (fun i hi => h i (by omega)), h k (by omega)]
/-- A flow's part of a link's load. -/
def onl (N : AN) (l : Nat) (y : Nat → Rat) (i : Nat) : Rat := if N.us i l then y i else 0
def ldA (N : AN) (y : Nat → Rat) (l : Nat) : Rat := sumTo (onl N l y) N.nf
theorem ldA_le {N : AN} {y z : Nat → Rat} {l : Nat} (h : ∀ i, i < N.nf → N.us i l = true → y i ≤ z i) : ldA N y l ≤ ldA N z l := by
  refine sumTo_le _ fun i hi => ?_
  unfold onl
  split
  · exact h i hi ‹_›
  · exact Rat.le_refl
theorem ldA_lt {N : AN} {y z : Nat → Rat} {l : Nat} (h : ∀ i, i < N.nf → N.us i l = true → y i ≤ z i) (k : ∃ i, i < N.nf ∧ N.us i l = true ∧ y i < z i) : ldA N y l < ldA N z l := by
  refine sumTo_lt _ (fun i hi => ?_) ?_
  · unfold onl
    split
    · exact h i hi ‹_›
    · exact Rat.le_refl
  · obtain ⟨i, h1, h2, h3⟩ := k
    refine ⟨i, h1, ?_⟩
    unfold onl
    rw [if_pos h2, if_pos h2]
    exact h3
theorem ldA_congr {N : AN} {y z : Nat → Rat} {l : Nat} (h : ∀ i, i < N.nf → N.us i l = true → y i = z i) : ldA N y l = ldA N z l := by
  refine sumTo_congr _ fun i hi => ?_
  unfold onl
  split
  · exact h i hi ‹_›
  · rfl
structure Feas (N : AN) (x : Nat → Rat) : Prop where
  nn : ∀ i, i < N.nf → 0 ≤ x i
  dem : ∀ i, i < N.nf → N.bd i = true → x i ≤ N.dm i
  cap : ∀ l, l < N.nl → ldA N x l ≤ N.C l
/-- A link that holds a flow back. -/
def RsnL (N : AN) (x : Nat → Rat) (i l : Nat) : Prop := N.us i l = true ∧ ldA N x l = N.C l ∧ ∀ j, j < N.nf → N.us j l = true → x j ≤ x i
def RsnD (N : AN) (x : Nat → Rat) (i : Nat) : Prop := N.bd i = true ∧ x i = N.dm i
def Rsn (N : AN) (x : Nat → Rat) (i : Nat) : Prop := RsnD N x i ∨ ∃ l, l < N.nl ∧ RsnL N x i l
def FairA (N : AN) (x : Nat → Rat) : Prop := Feas N x ∧ ∀ i, i < N.nf → Rsn N x i
/-- With another rate of one flow there is no certificate. -/
theorem fair_one {N : AN} {x y : Nat → Rat} {k : Nat} (hk : k < N.nf) (hx : FairA N x) (hy : FairA N y) (h : ∀ i, i < N.nf → i ≠ k → y i = x i) : y k = x k := by
  have case1 : ∀ {x y : Nat → Rat}, FairA N x → FairA N y → (∀ i, i < N.nf → i ≠ k → y i = x i) → ¬ x k < y k := by
    intro x y hx hy h hlt
    rcases hx.2 k hk with ⟨hb, hd⟩ | ⟨l, hl, hu, hf, _⟩
    · have := hy.1.dem k hk hb
      grind
    · have h1 := hy.1.cap l hl
      have h2 : ldA N x l < ldA N y l := ldA_lt (fun i hi hu => by
        by_cases e : i = k
        · subst e; grind
        · rw [h i hi e]; exact Rat.le_refl) ⟨k, hk, hu, hlt⟩
      grind
  have h1 := case1 hx hy h
  have h2 := case1 hy hx (fun i hi e => (h i hi e).symm)
  grind
/-- The least of a limit and a level. -/
def mn (o : Option Rat) (v : Rat) : Rat := match o with | none => v | some q => if q ≤ v then q else v
theorem mn_none (v : Rat) : mn none v = v := rfl
theorem mn_le (o : Option Rat) (v : Rat) : mn o v ≤ v := by
  cases o with
  | none => exact Rat.le_refl
  | some q => unfold mn; dsimp only; split <;> grind
theorem mn_le' (q v : Rat) : mn (some q) v ≤ q := by unfold mn; dsimp only; split <;> grind
theorem mn_some (q v : Rat) : mn (some q) v = if q ≤ v then q else v := rfl
/-- What a link's level is, given its flows' limits. -/
def LvlA (N : AN) (l : Nat) (lim : Nat → Option Rat) : Option Rat → Prop
  | some v => 0 ≤ v ∧ ldA N (fun i => mn (lim i) v) l = N.C l ∧ ((∃ i, i < N.nf ∧ N.us i l = true ∧ (lim i = none ∨ ∃ q, lim i = some q ∧ v ≤ q)) ∨ (v = 0 ∧ ∀ i, i < N.nf → N.us i l = false))
  | none => (∀ i, i < N.nf → N.us i l = true → ∃ q, lim i = some q) ∧ ldA N (fun i => (lim i).getD 0) l < N.C l
/-- A bound of a flow elsewhere than at a link. -/
def Bnd (N : AN) (s : Nat → Option Rat) (i l : Nat) (q : Rat) : Prop := (N.bd i = true ∧ q = N.dm i) ∨ ∃ l', l' < N.nl ∧ l' ≠ l ∧ N.us i l' = true ∧ s l' = some q
def LimP (N : AN) (s : Nat → Option Rat) (i l : Nat) : Option Rat → Prop
  | some q => Bnd N s i l q ∧ ∀ q', Bnd N s i l q' → q ≤ q'
  | none => ∀ q, ¬ Bnd N s i l q
/-- A round. -/
def StepA (N : AN) (s s' : Nat → Option Rat) : Prop := ∀ l, l < N.nl → ∃ lim, (∀ i, i < N.nf → N.us i l = true → LimP N s i l (lim i)) ∧ LvlA N l lim (s' l)
theorem lev_lower {N : AN} {x : Nat → Rat} {l : Nat} {lim : Nat → Option Rat} {v t t' : Rat} (hx : Feas N x) (hl : l < N.nl) (h : LvlA N l lim (some v)) (gap : ∀ i, i < N.nf → x i ≤ t ∨ t' ≤ x i)
    (h1 : ∀ i, i < N.nf → N.us i l = true → x i ≤ t → ∃ q, lim i = some q ∧ q ≤ x i) (h2 : ∃ i, i < N.nf ∧ N.us i l = true ∧ t' ≤ x i) : t' ≤ v := by
  refine Classical.byContradiction fun hv => ?_
  have hv : v < t' := by grind
  have := hx.cap l hl
  have h3 : ldA N (fun i => mn (lim i) v) l < ldA N x l := by
    refine ldA_lt (fun i hi hu => ?_) ?_
    · rcases gap i hi with g | g
      · obtain ⟨q, e, hq⟩ := h1 i hi hu g
        try dsimp only
        rw [e]
        have := mn_le' q v
        grind
      · have := mn_le (lim i) v
        try dsimp only
        grind
    · obtain ⟨i, hi, hu, g⟩ := h2
      refine ⟨i, hi, hu, ?_⟩
      have := mn_le (lim i) v
      try dsimp only
      grind
  have h4 := h.2.1
  grind
theorem lev_none {N : AN} {x : Nat → Rat} {l : Nat} {lim : Nat → Option Rat} {o : Option Rat} (h : LvlA N l lim o) (hn : ldA N x l < N.C l)
    (h1 : ∀ i, i < N.nf → N.us i l = true → ∃ q, lim i = some q ∧ q ≤ x i) : o = none := by
  cases o with
  | none => rfl
  | some v =>
    have h3 : ldA N (fun i => mn (lim i) v) l ≤ ldA N x l := by
      refine ldA_le (fun i hi hu => ?_)
      obtain ⟨q, e, hq⟩ := h1 i hi hu
      try dsimp only
      rw [e]
      have := mn_le' q v
      grind
    have h4 := h.2.1
    grind
theorem lev_exact {N : AN} {x : Nat → Rat} {l : Nat} {lim : Nat → Option Rat} {o : Option Rat} {M : Rat} (h : LvlA N l lim o) (hf : ldA N x l = N.C l) (hm : ∃ i, i < N.nf ∧ N.us i l = true ∧ x i = M) (hM : ∀ i, i < N.nf → N.us i l = true → x i ≤ M)
    (h1 : ∀ i, i < N.nf → N.us i l = true → x i < M → lim i = some (x i)) (h2 : ∀ i, i < N.nf → N.us i l = true → x i = M → lim i = none ∨ ∃ q, lim i = some q ∧ M ≤ q) : o = some M := by
  obtain ⟨i0, hi0, hu0, hx0⟩ := hm
  cases o with
  | none =>
    obtain ⟨ha, hb⟩ := h
    have h3 : ldA N x l ≤ ldA N (fun i => (lim i).getD 0) l := by
      refine ldA_le (fun i hi hu => ?_)
      obtain ⟨q, e⟩ := ha i hi hu
      try dsimp only
      rw [e, Option.getD_some]
      have := hM i hi hu
      by_cases c : x i < M
      · have e2 := h1 i hi hu c
        rw [e] at e2
        injection e2 with e2
        rw [e2]; exact Rat.le_refl
      · rcases h2 i hi hu (by grind) with e2 | ⟨q', e2, hq⟩
        · rw [e] at e2; cases e2
        · rw [e] at e2
          injection e2 with e2
          grind
    grind
  | some v =>
    obtain ⟨_, hb, hc⟩ := h
    congr 1
    refine Classical.byContradiction fun hne => ?_
    by_cases hlt : v < M
    · have h3 : ldA N (fun i => mn (lim i) v) l < ldA N x l := by
        refine ldA_lt (fun i hi hu => ?_) ⟨i0, hi0, hu0, ?_⟩
        · try dsimp only
          by_cases c : x i < M
          · rw [h1 i hi hu c]; exact mn_le' _ _
          · have := mn_le (lim i) v
            grind
        · have := mn_le (lim i0) v
          try dsimp only
          grind
      grind
    · have hgt : M < v := by grind
      have hge : ∀ i, i < N.nf → N.us i l = true → x i ≤ mn (lim i) v := by
        intro i hi hu
        by_cases c : x i < M
        · rw [h1 i hi hu c, mn_some]; split <;> grind
        · have := hM i hi hu
          rcases h2 i hi hu (by grind) with e | ⟨q, e, hq⟩
          · rw [e, mn_none]; grind
          · rw [e, mn_some]; split <;> grind
      rcases hc with ⟨i, hi, hu, hi3⟩ | ⟨_, hno⟩
      · have h3 : ldA N x l < ldA N (fun i => mn (lim i) v) l := by
          refine ldA_lt hge ⟨i, hi, hu, ?_⟩
          have := hM i hi hu
          try dsimp only
          rcases hi3 with e | ⟨q, e, hq⟩
          · rw [e, mn_none]; grind
          · rw [e, mn_some]; split <;> grind
        grind
      · rw [hno i0 hi0] at hu0; cases hu0
/-- The greatest rate on a link, at least 0. -/
def mxTo (N : AN) (x : Nat → Rat) (l : Nat) : Nat → Rat
  | 0 => 0
  | k + 1 => if N.us k l = true ∧ mxTo N x l k ≤ x k then x k else mxTo N x l k
def mxA (N : AN) (x : Nat → Rat) (l : Nat) : Rat := mxTo N x l N.nf
theorem mxTo_spec {N : AN} {x : Nat → Rat} {l : Nat} : ∀ k, 0 ≤ mxTo N x l k ∧ (∀ i, i < k → N.us i l = true → x i ≤ mxTo N x l k) ∧ (mxTo N x l k = 0 ∨ ∃ i, i < k ∧ N.us i l = true ∧ x i = mxTo N x l k)
  | 0 => ⟨Rat.le_refl, fun i hi => by omega, Or.inl rfl⟩
  | k + 1 => by
    obtain ⟨h1, h2, h3⟩ := mxTo_spec (N := N) (x := x) (l := l) k
    unfold mxTo
    split
    · rename_i c
      refine ⟨by grind, fun i hi hu => ?_, Or.inr ⟨k, by omega, c.1, rfl⟩⟩
      by_cases e : i = k
      · subst e; exact Rat.le_refl
      · have := h2 i (by omega) hu
        grind
    · rename_i c
      refine ⟨h1, fun i hi hu => ?_, ?_⟩
      · by_cases e : i = k
        · subst e
          refine Classical.byContradiction fun hh => c ⟨hu, by grind⟩
        · exact h2 i (by omega) hu
      · rcases h3 with h3 | ⟨i, a, b, e⟩
        · exact Or.inl h3
        · exact Or.inr ⟨i, by omega, b, e⟩
theorem mx_ge {N : AN} {x : Nat → Rat} {l i : Nat} (hi : i < N.nf) (hu : N.us i l = true) : x i ≤ mxA N x l := (mxTo_spec N.nf).2.1 i hi hu
theorem mx_nn (N : AN) (x : Nat → Rat) (l : Nat) : 0 ≤ mxA N x l := (mxTo_spec N.nf).1
theorem mx_att {N : AN} {x : Nat → Rat} {l i : Nat} (hx : Feas N x) (hi : i < N.nf) (hu : N.us i l = true) : ∃ i, i < N.nf ∧ N.us i l = true ∧ x i = mxA N x l := by
  rcases (mxTo_spec (N := N) (x := x) (l := l) N.nf).2.2 with h | h
  · refine ⟨i, hi, hu, ?_⟩
    have h1 := mx_ge (x := x) hi hu
    have h2 := hx.nn i hi
    have h3 : mxA N x l = 0 := h
    grind
  · exact h
theorem mx_empty {N : AN} {x : Nat → Rat} {l : Nat} (h : ∀ i, i < N.nf → N.us i l = false) : mxA N x l = 0 := by
  rcases (mxTo_spec (N := N) (x := x) (l := l) N.nf).2.2 with h' | ⟨i, hi, hu, _⟩
  · exact h'
  · rw [h i hi] at hu; cases hu
theorem ld_empty {N : AN} {x : Nat → Rat} {l : Nat} (h : ∀ i, i < N.nf → N.us i l = false) : ldA N x l = 0 := by
  have : ∀ k, k ≤ N.nf → sumTo (onl N l x) k = 0 := by
    intro k
    induction k with
    | zero => intro _; rfl
    | succ k ih =>
      intro hk
      unfold sumTo
      rw [ih (by omega)]
      unfold onl
      rw [h k (by omega)]
      rw [if_neg (by decide)]
      exact Rat.add_zero 0
  exact this _ (Nat.le_refl _)
def EA (N : AN) (x : Nat → Rat) (t : Rat) (s : Nat → Option Rat) : Prop := ∀ l, l < N.nl → (∃ i, i < N.nf ∧ N.us i l = true) → ldA N x l = N.C l → mxA N x l ≤ t → s l = some (mxA N x l)
def BA (N : AN) (x : Nat → Rat) (u : Rat) (s : Nat → Option Rat) : Prop := ∀ l, l < N.nl → ∀ v, s l = some v → mxA N x l ≤ v ∨ u ≤ v
theorem lim_ge {N : AN} {x : Nat → Rat} {u : Rat} {s : Nat → Option Rat} {i l : Nat} {o : Option Rat} (hx : FairA N x) (hb : BA N x u s) (hi : i < N.nf) (h : LimP N s i l o) (hu : x i ≤ u) : o = none ∨ ∃ q, o = some q ∧ x i ≤ q := by
  cases o with
  | none => exact Or.inl rfl
  | some q =>
    refine Or.inr ⟨q, rfl, ?_⟩
    rcases h.1 with ⟨h1, h2⟩ | ⟨l', h1, h2, h3, h4⟩
    · rw [h2]; exact hx.1.dem i hi h1
    · have := mx_ge (x := x) hi h3
      rcases hb l' h1 q h4 with g | g <;> grind
theorem lim_le {N : AN} {x : Nat → Rat} {t : Rat} {s : Nat → Option Rat} {i l : Nat} {o : Option Rat} (hx : FairA N x) (he : EA N x t s) (hi : i < N.nf) (h : LimP N s i l o) (hu : x i ≤ t) (hne : ¬ (ldA N x l = N.C l ∧ x i = mxA N x l ∧ l < N.nl)) : ∃ q, o = some q ∧ q ≤ x i := by
  have hB : Bnd N s i l (x i) := by
    rcases hx.2 i hi with ⟨h1, h2⟩ | ⟨l', h1, h2, h3, h4⟩
    · exact Or.inl ⟨h1, h2⟩
    · obtain ⟨i1, a1, a2, a3⟩ := mx_att hx.1 hi h2
      have b1 := h4 i1 a1 a2
      have b2 := mx_ge (x := x) hi h2
      have e : mxA N x l' = x i := by grind
      refine Or.inr ⟨l', h1, ?_, h2, ?_⟩
      · intro e2
        subst e2
        exact hne ⟨h3, e.symm, h1⟩
      · rw [he l' h1 ⟨i, hi, h2⟩ h3 (by rw [e]; exact hu), e]
  cases o with
  | none => exact absurd hB (h _)
  | some q => exact ⟨q, rfl, h.2 _ hB⟩
/-- One round. -/
theorem step_one {N : AN} {x : Nat → Rat} {t t' u : Rat} {s s' : Nat → Option Rat} (hx : FairA N x) (htt : t ≤ t') (gap : ∀ i, i < N.nf → x i ≤ t ∨ t' ≤ x i) (hu : u = t ∨ u = t') (he : EA N x t s) (hb : BA N x u s) (hs : StepA N s s') : EA N x u s' ∧ BA N x t' s' := by
  have hE : EA N x u s' := by
    intro l hl hfl hfull hmu
    obtain ⟨lim, h1, h2⟩ := hs l hl
    obtain ⟨i, hi, hui⟩ := hfl
    have hatt := mx_att hx.1 hi hui
    refine lev_exact h2 hfull hatt (fun i hi hu => mx_ge hi hu) (fun j hj huj hlt => ?_) (fun j hj huj he2 => ?_)
    · have hjt : x j ≤ t := by
        rcases hu with rfl | rfl
        · grind
        · rcases gap j hj with g | g
          · exact g
          · grind
      obtain ⟨q, e, hq⟩ := lim_le hx he hj (h1 j hj huj) hjt (fun hh => by grind)
      rcases lim_ge hx hb hj (h1 j hj huj) (by grind) with e2 | ⟨q2, e2, hq2⟩
      · rw [e] at e2; cases e2
      · rw [e] at e2
        injection e2 with e2
        rw [e]
        congr 1
        grind
    · rcases lim_ge hx hb hj (h1 j hj huj) (by grind) with e2 | ⟨q2, e2, hq2⟩
      · exact Or.inl e2
      · exact Or.inr ⟨q2, e2, by grind⟩
  refine ⟨hE, ?_⟩
  intro l hl v hv
  by_cases hfl : ∃ i, i < N.nf ∧ N.us i l = true
  · by_cases hm : mxA N x l ≤ t
    · by_cases hfull : ldA N x l = N.C l
      · have := hE l hl hfl hfull (by rcases hu with rfl | rfl <;> grind)
        rw [this] at hv
        injection hv with hv
        exact Or.inl (by grind)
      · obtain ⟨lim, h1, h2⟩ := hs l hl
        have hlt : ldA N x l < N.C l := by have := hx.1.cap l hl; grind
        have := lev_none h2 hlt (fun j hj huj => lim_le hx he hj (h1 j hj huj) (by have := mx_ge (x := x) hj huj; grind) (fun hh => hfull hh.1))
        rw [this] at hv
        cases hv
    · obtain ⟨lim, h1, h2⟩ := hs l hl
      obtain ⟨i0, hi0, hu0⟩ := hfl
      obtain ⟨i, hi, hui, hxi⟩ := mx_att hx.1 hi0 hu0
      rw [hv] at h2
      refine Or.inr (lev_lower hx.1 hl h2 gap (fun j hj huj hjt => lim_le hx he hj (h1 j hj huj) hjt (fun hh => by grind)) ⟨i, hi, hui, ?_⟩)
      rcases gap i hi with g | g
      · grind
      · exact g
  · have hno : ∀ i, i < N.nf → N.us i l = false := fun i hi => by
      cases h : N.us i l with
      | false => rfl
      | true => exact absurd ⟨i, hi, h⟩ hfl
    obtain ⟨lim, h1, h2⟩ := hs l hl
    rw [hv] at h2
    rw [mx_empty hno]
    exact Or.inl h2.1
/-- The shares at rest. -/
def starA (N : AN) (x : Nat → Rat) (l : Nat) : Option Rat := if ldA N x l = N.C l then some (mxA N x l) else none
theorem step_star {N : AN} {x : Nat → Rat} {t : Rat} {s s' : Nat → Option Rat} (hx : FairA N x) (hall : ∀ i, i < N.nf → x i ≤ t) (he : EA N x t s) (hb : BA N x t s) (hs : StepA N s s') (l : Nat) (hl : l < N.nl) : s' l = starA N x l := by
  obtain ⟨lim, h1, h2⟩ := hs l hl
  unfold starA
  by_cases hfl : ∃ i, i < N.nf ∧ N.us i l = true
  · obtain ⟨i0, hi0, hu0⟩ := hfl
    split
    · rename_i hfull
      have := (step_one hx Rat.le_refl (fun i hi => Or.inl (hall i hi)) (Or.inl rfl) he hb hs).1 l hl ⟨i0, hi0, hu0⟩ hfull (by
        obtain ⟨i, hi, hui, hxi⟩ := mx_att hx.1 hi0 hu0
        have := hall i hi
        grind)
      exact this
    · rename_i hfull
      have hlt : ldA N x l < N.C l := by have := hx.1.cap l hl; grind
      exact lev_none h2 hlt (fun j hj huj => lim_le hx he hj (h1 j hj huj) (hall j hj) (fun hh => hfull hh.1))
  · have hno : ∀ i, i < N.nf → N.us i l = false := fun i hi => by
      cases h : N.us i l with
      | false => rfl
      | true => exact absurd ⟨i, hi, h⟩ hfl
    rw [ld_empty hno, mx_empty hno]
    cases hv : s' l with
    | none =>
      rw [hv] at h2
      have := h2.2
      rw [ld_empty hno] at this
      rw [if_neg (by grind)]
    | some v =>
      rw [hv] at h2
      have h3 := h2.2.1
      rw [ld_empty hno] at h3
      rcases h2.2.2 with ⟨i, hi, hu, _⟩ | ⟨e, _⟩
      · exact absurd ⟨i, hi, hu⟩ hfl
      · rw [if_pos h3, e]
/-- How many of the first k rates are at most t. -/
def cntA (x : Nat → Rat) (t : Rat) : Nat → Nat
  | 0 => 0
  | k + 1 => cntA x t k + (if x k ≤ t then 1 else 0)
theorem cntA_all {x : Nat → Rat} {t : Rat} : ∀ k, (∀ i, i < k → x i ≤ t) → cntA x t k = k
  | 0, _ => rfl
  | k + 1, h => by
    unfold cntA
    rw [cntA_all k (fun i hi => h i (by omega)), if_pos (h k (by omega))]
theorem cntA_le {x : Nat → Rat} {t : Rat} : ∀ k, cntA x t k ≤ k
  | 0 => Nat.le_refl _
  | k + 1 => by
    unfold cntA
    have := cntA_le (x := x) (t := t) k
    split <;> omega
theorem cntA_full {x : Nat → Rat} {t : Rat} : ∀ k, k ≤ cntA x t k → ∀ i, i < k → x i ≤ t
  | 0, _ => fun i hi => by omega
  | k + 1, h => by
    unfold cntA at h
    have h1 := cntA_le (x := x) (t := t) k
    intro i hi
    by_cases c : x k ≤ t
    · by_cases e : i = k
      · subst e; exact c
      · rw [if_pos c] at h
        exact cntA_full k (by omega) i (by omega)
    · rw [if_neg c] at h; omega
theorem cntA_mono {x : Nat → Rat} {t t' : Rat} (h : t ≤ t') : ∀ k, cntA x t k ≤ cntA x t' k
  | 0 => Nat.le_refl _
  | k + 1 => by
    unfold cntA
    have := cntA_mono (x := x) h k
    by_cases c : x k ≤ t
    · rw [if_pos c, if_pos (by grind)]; omega
    · rw [if_neg c]; omega
theorem cntA_more {x : Nat → Rat} {t t' : Rat} (h : t ≤ t') : ∀ k i, i < k → t < x i → x i ≤ t' → cntA x t k + 1 ≤ cntA x t' k
  | 0, i, hi, _, _ => by omega
  | k + 1, i, hi, h1, h2 => by
    unfold cntA
    by_cases e : i = k
    · subst e
      have := cntA_mono (x := x) h i
      rw [if_neg (by grind), if_pos h2]; omega
    · have := cntA_more h k i (by omega) h1 h2
      by_cases c : x k ≤ t
      · rw [if_pos c, if_pos (by grind)]; omega
      · rw [if_neg c]; omega
theorem next_level (x : Nat → Rat) (t : Rat) : ∀ k, (∀ i, i < k → x i ≤ t) ∨ ∃ i, i < k ∧ t < x i ∧ ∀ j, j < k → x j ≤ t ∨ x i ≤ x j
  | 0 => Or.inl fun i hi => by omega
  | k + 1 => by
    rcases next_level x t k with h | ⟨i, hi, h1, h2⟩
    · by_cases c : x k ≤ t
      · left
        intro i hi
        by_cases e : i = k
        · subst e; exact c
        · exact h i (by omega)
      · right
        refine ⟨k, by omega, by grind, fun j hj => ?_⟩
        by_cases e : j = k
        · subst e; right; exact Rat.le_refl
        · left; exact h j (by omega)
    · by_cases c : t < x k ∧ x k < x i
      · right
        refine ⟨k, by omega, c.1, fun j hj => ?_⟩
        by_cases e : j = k
        · subst e; right; exact Rat.le_refl
        · rcases h2 j (by omega) with g | g
          · exact Or.inl g
          · right; grind
      · right
        refine ⟨i, by omega, h1, fun j hj => ?_⟩
        by_cases e : j = k
        · subst e; grind
        · exact h2 j (by omega)
/-- Two rounds put the next level right. -/
theorem rounds_two {N : AN} {x : Nat → Rat} {s : Nat → Nat → Option Rat} (hx : FairA N x) (h0 : ∀ l, l < N.nl → ∀ v, s 0 l = some v → 0 ≤ v) (J : Nat) (hs : ∀ k, k < 2 * J → StepA N (s k) (s (k + 1))) : ∀ j, j ≤ J → ∃ t, EA N x t (s (2 * j)) ∧ BA N x t (s (2 * j)) ∧ (j ≤ cntA x t N.nf ∨ N.nf ≤ cntA x t N.nf) := by
  intro j
  induction j with
  | zero =>
    intro _
    refine ⟨-1, ?_, ?_, Or.inl (Nat.zero_le _)⟩
    · intro l _ _ _ hm
      have := mx_nn N x l
      grind
    · intro l hl v hv
      have := h0 l hl v hv
      right; grind
  | succ j ih =>
    intro hj
    obtain ⟨t, h1, h2, h3⟩ := ih (by omega)
    have hg : ∃ t', t ≤ t' ∧ (∀ i, i < N.nf → x i ≤ t ∨ t' ≤ x i) ∧ (j + 1 ≤ cntA x t' N.nf ∨ N.nf ≤ cntA x t' N.nf) := by
      rcases next_level x t N.nf with h | ⟨i, hi, a, b⟩
      · exact ⟨t, Rat.le_refl, fun i hi => Or.inl (h i hi), Or.inr (by rw [cntA_all _ h]; omega)⟩
      · refine ⟨x i, by grind, b, ?_⟩
        have := cntA_more (x := x) (t := t) (t' := x i) (by grind) N.nf i hi a Rat.le_refl
        omega
    obtain ⟨t', g1, g2, g3⟩ := hg
    have a1 := step_one hx g1 g2 (Or.inl rfl) h1 h2 (hs (2 * j) (by omega))
    have a2 := step_one hx g1 g2 (Or.inr rfl) a1.1 a1.2 (hs (2 * j + 1) (by omega))
    exact ⟨t', a2.1, a2.2, g3⟩
/-- The exchange is at rest behind twice as many rounds as there are flows, and one. -/
theorem rest_at {N : AN} {x : Nat → Rat} {s : Nat → Nat → Option Rat} (hx : FairA N x) (h0 : ∀ l, l < N.nl → ∀ v, s 0 l = some v → 0 ≤ v) {K : Nat} (hK : 2 * N.nf < K) (hs : ∀ k, k < K → StepA N (s k) (s (k + 1))) : ∀ k, 2 * N.nf < k → k ≤ K → ∀ l, l < N.nl → s k l = starA N x l := by
  obtain ⟨t, h1, h2, h3⟩ := rounds_two hx h0 N.nf (fun k hk => hs k (by omega)) N.nf (Nat.le_refl _)
  have hall := cntA_full N.nf (by omega : N.nf ≤ cntA x t N.nf)
  have hEB : ∀ d, 2 * N.nf + d < K → EA N x t (s (2 * N.nf + d)) ∧ BA N x t (s (2 * N.nf + d)) := by
    intro d
    induction d with
    | zero => exact fun _ => ⟨h1, h2⟩
    | succ d ih =>
      intro hd
      have := ih (by omega)
      exact step_one hx Rat.le_refl (fun i hi => Or.inl (hall i hi)) (Or.inl rfl) this.1 this.2 (hs (2 * N.nf + d) (by omega))
  intro k hk hkK l hl
  obtain ⟨d, rfl⟩ : ∃ d, k = 2 * N.nf + d + 1 := ⟨k - 2 * N.nf - 1, by omega⟩
  have := hEB d (by omega)
  exact step_star hx hall this.1 this.2 (hs _ (by omega)) l hl
/-- The least bound of a flow at rest is its rate. -/
theorem star_rate {N : AN} {x : Nat → Rat} {s : Nat → Option Rat} (hx : FairA N x) (hs : ∀ l, l < N.nl → s l = starA N x l) {i : Nat} (hi : i < N.nf) {o : Option Rat} (h : LimP N s i N.nl o) : o = some (x i) := by
  have he : EA N x (x i) s := by
    intro l hl _ hf _
    rw [hs l hl]
    unfold starA
    rw [if_pos hf]
  have hb : BA N x (x i) s := by
    intro l hl v hv
    rw [hs l hl] at hv
    unfold starA at hv
    split at hv
    · injection hv with hv
      left; rw [hv]; exact Rat.le_refl
    · cases hv
  obtain ⟨q, e, hq⟩ := lim_le hx he hi h Rat.le_refl (fun hh => by omega)
  rcases lim_ge hx hb hi h Rat.le_refl with e2 | ⟨q2, e2, hq2⟩
  · rw [e] at e2; cases e2
  · rw [e] at e2
    injection e2 with e2
    rw [e]
    congr 1
    grind
end Go.Proofs.Ytjalegdfofogcaa
namespace Go.Proofs.Ytjalegdfofogcaa
set_option linter.unusedVariables false
set_option linter.unusedSimpArgs false
open Go.RowKit
def rq0 : Rq := ⟨0, 0⟩
def ad (a b : Rq) : Rq × Int := opR (val a + val b)
/-- A rate is added to the load of a link; behind an error nothing happens. -/
def ldS (r : Rq) (s : List Rq × Int) (l : Int) : List Rq × Int := if s.2 = 0 then (s.1.set l.toNat (ad (s.1.getD l.toNat rq0) r).1, (ad (s.1.getD l.toNat rq0) r).2) else s
def ldF (r : Rq) (ls : List Int) (s : List Rq × Int) : List Rq × Int := ls.foldl (ldS r) s
def ldK (n : PNet) (rs : List Rq) : Nat → List Rq × Int
  | 0 => (List.replicate n.caps.length ⟨0, 1⟩, 0)
  | k + 1 => ldF (rs.getD k rq0) (flo n k).ls (ldK n rs k)
def loadP (n : PNet) (rs : List Rq) : List Rq × Int := ldK n rs n.flows.length
theorem ldF_snoc (r : Rq) (ls : List Int) (l : Int) (s : List Rq × Int) : ldF r (ls ++ [l]) s = ldS r (ldF r ls s) l := by unfold ldF; rw [List.foldl_append]; rfl
theorem ldF_err {r : Rq} {s : List Rq × Int} (h : s.2 ≠ 0) (ls : List Int) : ldF r ls s = s := by
  induction ls with
  | nil => rfl
  | cons l ls ih =>
    show ldF r ls (ldS r s l) = s
    have : ldS r s l = s := by unfold ldS; rw [if_neg h]
    rw [this]; exact ih
/-- Behind an error in the first j links of flow k the whole reckoning has the error. -/
theorem ldF_stop {r : Rq} {ls : List Int} {s t : List Rq × Int} {j : Nat} (h : ldF r (ls.take j) s = t) (ht : t.2 ≠ 0) : ldF r ls s = t := by
  have e : ls = ls.take j ++ ls.drop j := (List.take_append_drop j ls).symm
  rw [e]
  unfold ldF at h ⊢
  rw [List.foldl_append, h]
  exact ldF_err ht _
theorem ldK_stop {n : PNet} {rs : List Rq} {k : Nat} {t : List Rq × Int} (h : ldK n rs k = t) (ht : t.2 ≠ 0) : ∀ d, ldK n rs (k + d) = t
  | 0 => h
  | d + 1 => by
    show ldF _ _ (ldK n rs (k + d)) = t
    rw [ldK_stop h ht d]
    exact ldF_err ht _
theorem opR_err (z : Rat) : (opR z).2 = 0 ∨ (opR z).2 = 10 := by unfold opR; split <;> simp
theorem opR_okQ (z : Rat) : okQ (opR z).1 = true := by
  cases h : fitsR z with
  | true => rw [(opR_ok h).1]; exact (opR_ok h).2
  | false => rw [opR_no h]; rfl
theorem opR_val {z : Rat} (h : (opR z).2 = 0) : val (opR z).1 = z := by
  cases hf : fitsR z with
  | true => rw [(opR_ok hf).1]; exact val_cq z
  | false => rw [opR_no hf] at h; exact absurd h (by decide)
theorem ldS_len (r : Rq) (s : List Rq × Int) (l : Int) : (ldS r s l).1.length = s.1.length := by unfold ldS; split <;> simp
theorem ldF_len (r : Rq) (ls : List Int) (s : List Rq × Int) : (ldF r ls s).1.length = s.1.length := by
  induction ls generalizing s with
  | nil => rfl
  | cons l ls ih =>
    show (ldF r ls (ldS r s l)).1.length = _
    rw [ih, ldS_len]
theorem ldK_len (n : PNet) (rs : List Rq) : ∀ k, (ldK n rs k).1.length = n.caps.length
  | 0 => by simp [ldK]
  | k + 1 => by
    show (ldF _ _ (ldK n rs k)).1.length = _
    rw [ldF_len, ldK_len n rs k]
def AllOk (L : List Rq) : Prop := ∀ r ∈ L, okQ r = true
theorem AllOk.set {L : List Rq} (h : AllOk L) (k : Nat) {x : Rq} (hx : okQ x = true) : AllOk (L.set k x) := by
  intro r hr
  rcases List.mem_or_eq_of_mem_set hr with h1 | h1
  · exact h r h1
  · rw [h1]; exact hx
theorem AllOk.getD {L : List Rq} (h : AllOk L) (k : Nat) : okQ (L.getD k rq0) = true := by
  rw [List.getD_eq_getElem?_getD]
  cases hk : L[k]? with
  | none => rfl
  | some r => exact h r (List.mem_of_getElem? hk)
theorem ldS_ok {r : Rq} {s : List Rq × Int} (l : Int) (h : AllOk s.1) : AllOk (ldS r s l).1 := by
  unfold ldS
  split
  · exact h.set _ (opR_okQ _)
  · exact h
theorem ldF_ok {r : Rq} (ls : List Int) {s : List Rq × Int} (h : AllOk s.1) : AllOk (ldF r ls s).1 := by
  induction ls generalizing s with
  | nil => exact h
  | cons l ls ih => exact ih (ldS_ok l h)
theorem ldK_ok (n : PNet) (rs : List Rq) : ∀ k, AllOk (ldK n rs k).1
  | 0 => by
    intro r hr
    rw [show (ldK n rs 0).1 = List.replicate n.caps.length ⟨0, 1⟩ from rfl] at hr
    rw [(List.mem_replicate.1 hr).2]
    rfl
  | k + 1 => ldF_ok _ (ldK_ok n rs k)
theorem ldS_e {r : Rq} {s : List Rq × Int} {l : Int} (h : (ldS r s l).2 = 0) : s.2 = 0 := by
  unfold ldS at h
  split at h
  · assumption
  · exact h
theorem ldF_e {r : Rq} {ls : List Int} {s : List Rq × Int} (h : (ldF r ls s).2 = 0) : s.2 = 0 := by
  induction ls generalizing s with
  | nil => exact h
  | cons l ls ih => exact ldS_e (ih h)
theorem ldK_e {n : PNet} {rs : List Rq} : ∀ {k d : Nat}, (ldK n rs (k + d)).2 = 0 → (ldK n rs k).2 = 0
  | k, 0, h => h
  | k, d + 1, h => ldK_e (d := d) (ldF_e h)
theorem loadP_err (n : PNet) (rs : List Rq) : (loadP n rs).2 = 0 ∨ (loadP n rs).2 = 10 := by
  have hS : ∀ (r : Rq) (s : List Rq × Int) (l : Int), (s.2 = 0 ∨ s.2 = 10) → ((ldS r s l).2 = 0 ∨ (ldS r s l).2 = 10) := by
    intro r s l h
    unfold ldS
    split
    · exact opR_err _
    · exact h
  have hF : ∀ (r : Rq) (ls : List Int) (s : List Rq × Int), (s.2 = 0 ∨ s.2 = 10) → ((ldF r ls s).2 = 0 ∨ (ldF r ls s).2 = 10) := by
    intro r ls
    induction ls with
    | nil => exact fun s h => h
    | cons l ls ih => exact fun s h => ih _ (hS r s l h)
  have hK : ∀ k, (ldK n rs k).2 = 0 ∨ (ldK n rs k).2 = 10 := by
    intro k
    induction k with
    | zero => exact Or.inl rfl
    | succ k ih => exact hF _ _ _ ih
  exact hK _
/-- The net as mathematics. -/
def anet (n : PNet) : AN := ⟨n.caps.length, n.flows.length, fun l => val (n.caps.getD l rq0), fun i l => usesL n.flows i l, fun i => (flo n i).b, fun i => val (flo n i).d⟩
theorem getD_set {L : List Rq} {a b : Nat} {x : Rq} (ha : a < L.length) : (L.set a x).getD b rq0 = if a = b then x else L.getD b rq0 := by
  rw [List.getD_eq_getElem?_getD, List.getD_eq_getElem?_getD, List.getElem?_set]
  by_cases e : a = b
  · subst e; simp [ha]
  · rw [if_neg e, if_neg e]
/-- The loads behind the first links of a flow. -/
theorem ldF_val {nl : Nat} {r : Rq} {ls : List Int} : ∀ {s : List Rq × Int}, s.1.length = nl → (∀ x ∈ ls, 0 ≤ x ∧ x < nl) → ls.Nodup → (ldF r ls s).2 = 0 → ∀ l, l < nl → val ((ldF r ls s).1.getD l rq0) = val (s.1.getD l rq0) + if ls.contains (l : Int) then val r else 0 := by
  induction ls with
  | nil => intro s _ _ _ _ l _; simp [ldF, Rat.add_zero]
  | cons x ls ih =>
    intro s hs hr hd he l hl
    rw [List.nodup_cons] at hd
    have hx := hr x (by simp)
    have he' : (ldF r ls (ldS r s x)).2 = 0 := he
    have hs0 : s.2 = 0 := ldS_e (ldF_e he')
    have hx0 : (ldS r s x).2 = 0 := ldF_e he'
    have e1 : ldS r s x = (s.1.set x.toNat (ad (s.1.getD x.toNat rq0) r).1, (ad (s.1.getD x.toNat rq0) r).2) := by unfold ldS; rw [if_pos hs0]
    have := ih (s := ldS r s x) (by rw [ldS_len, hs]) (fun y hy => hr y (by simp [hy])) hd.2 he' l hl
    show val ((ldF r ls (ldS r s x)).1.getD l rq0) = _
    rw [this, e1]
    dsimp only
    rw [getD_set (by omega)]
    rw [e1] at hx0
    dsimp only at hx0
    by_cases e : x.toNat = l
    · have hxl : x = (l : Int) := by omega
      subst hxl
      rw [if_pos e]
      have hn : ls.contains (l : Int) = false := by
        cases h : ls.contains (l : Int) with
        | false => rfl
        | true => exact absurd (List.contains_iff_mem.1 h) hd.1
      rw [hn]
      have hv := opR_val (z := val (s.1.getD (l : Int).toNat rq0) + val r) hx0
      unfold ad
      rw [hv, Int.toNat_natCast]
      simp [Rat.add_zero]
    · rw [if_neg e]
      have hne : ¬ (l : Int) = x := by omega
      have hc : (x :: ls).contains (l : Int) = ls.contains (l : Int) := by simp [hne]
      rw [hc]
/-- What the program's Valid asks of the links. -/
structure LinksOk (n : PNet) : Prop where
  rg : ∀ p ∈ n.flows, ∀ x ∈ p.ls, 0 ≤ x ∧ x < n.caps.length
  nd : ∀ p ∈ n.flows, p.ls.Nodup
theorem netOk_flow {n : PNet} (h : netOk n = true) {p : PFlow} (hp : p ∈ n.flows) : flowOk n.caps.length p = true := by
  unfold netOk at h
  rw [Bool.and_eq_true, Bool.and_eq_true, Bool.and_eq_true, List.all_eq_true, List.all_eq_true] at h
  exact h.2.2.2 p hp
theorem links_at {nl : Nat} {p : PFlow} (h : flowOk nl p = true) {i : Nat} (hi : i < p.ls.length) : linkOk nl (p.ls.take i) (p.ls.getD i 0) = true := by
  unfold flowOk linksOk at h
  rw [Bool.and_eq_true, Bool.and_eq_true, List.all_eq_true] at h
  exact h.2.1 i (List.mem_range.2 hi)
theorem netOk_links {n : PNet} (h : netOk n = true) : LinksOk n := by
  refine ⟨fun p hp x hx => ?_, fun p hp => ?_⟩
  · obtain ⟨i, hi⟩ := List.getElem?_of_mem hx
    have hil : i < p.ls.length := (List.getElem?_eq_some_iff.1 hi).1
    have := links_at (netOk_flow h hp) hil
    rw [List.getD_eq_getElem?_getD, hi, Option.getD_some] at this
    unfold linkOk at this
    rw [Bool.and_eq_true, Bool.and_eq_true, decide_eq_true_eq, decide_eq_true_eq] at this
    exact ⟨this.1, this.2.1⟩
  · refine List.pairwise_iff_getElem.2 fun i j hi hj hij he => ?_
    have := links_at (netOk_flow h hp) hj
    rw [List.getD_eq_getElem?_getD, List.getElem?_eq_getElem hj, Option.getD_some] at this
    unfold linkOk at this
    rw [Bool.and_eq_true, Bool.and_eq_true, Bool.not_eq_true'] at this
    have hm : p.ls[j] ∈ p.ls.take j := by
      rw [List.mem_iff_getElem?]
      exact ⟨i, by rw [List.getElem?_take, if_pos hij, List.getElem?_eq_getElem hi, he]⟩
    rw [List.contains_iff_mem.2 hm] at this
    exact absurd this.2.2 (by decide)
theorem ldK_val {n : PNet} {rs : List Rq} (hl : LinksOk n) : ∀ k, k ≤ n.flows.length → (ldK n rs k).2 = 0 → ∀ l, l < n.caps.length → val ((ldK n rs k).1.getD l rq0) = sumTo (onl (anet n) l (rt rs)) k
  | 0, _, _, l, hl2 => by
    rw [show (ldK n rs 0).1 = List.replicate n.caps.length ⟨0, 1⟩ from rfl, List.getD_eq_getElem?_getD, List.getElem?_replicate, if_pos hl2, Option.getD_some]
    show val ⟨0, 1⟩ = (0 : Rat)
    decide +kernel
  | k + 1, hk, he, l, hl2 => by
    have he' : (ldF (rs.getD k rq0) (flo n k).ls (ldK n rs k)).2 = 0 := he
    obtain ⟨hp, hm⟩ := flo_mem (n := n) (i := k) (by omega)
    have := ldF_val (nl := n.caps.length) (ldK_len n rs k) (hl.rg _ hm) (hl.nd _ hm) he' l hl2
    show val ((ldF (rs.getD k rq0) (flo n k).ls (ldK n rs k)).1.getD l rq0) = _
    rw [this, ldK_val hl k (by omega) (ldF_e he') l hl2, sumTo]
    congr 1
    unfold onl
    have hu : (anet n).us k l = (flo n k).ls.contains (l : Int) := by
      show usesL n.flows k l = _
      exact uses_of hp
    rw [hu]
    rfl
/-- The loads are the loads. -/
theorem load_val {n : PNet} {rs : List Rq} (hl : LinksOk n) (he : (loadP n rs).2 = 0) {l : Nat} (h : l < n.caps.length) : val ((loadP n rs).1.getD l rq0) = ldA (anet n) (rt rs) l := ldK_val hl _ (Nat.le_refl _) he l h
theorem sumTo_gd {D M : Nat} {f : Nat → Rat} : ∀ k, (∀ i, i < k → Gd D M (f i)) → Gd D (k * M) (sumTo f k)
  | 0, _ => (Gd.zero D).wide (Nat.zero_le _)
  | k + 1, h => by
    unfold sumTo
    have := (sumTo_gd k (fun i hi => h i (by omega))).add (h k (by omega))
    rw [Nat.succ_mul]
    exact this
/-- Small rates: no error. -/
theorem load_small {n : PNet} {rs : List Rq} {D M : Nat} (hl : LinksOk n) (hf : n.flows.length ≤ 5) (h : ∀ i, i < n.flows.length → Gd D M (rt rs i)) (hD : 1 ≤ D) (hD2 : D ≤ 1048576) (hM : 5 * M * D ≤ 549755813888) : (loadP n rs).2 = 0 := by
  have hsm : ∀ {N : Nat} {x : Rat}, Gd D N x → N ≤ 5 * M → (opR x).2 = 0 := by
    intro N x hg hN
    have := ((hg.sm hD hD2 (Nat.le_trans (Nat.mul_le_mul_right _ hN) hM))).fits
    rw [(opR_ok this).1]
  have hF : ∀ (k : Nat), k < n.flows.length → ∀ (ls : List Int) (s : List Rq × Int), s.2 = 0 → s.1.length = n.caps.length → (∀ x ∈ ls, 0 ≤ x ∧ x < n.caps.length) → ls.Nodup → (∀ x ∈ ls, Gd D (k * M) (val (s.1.getD x.toNat rq0))) → (ldF (rs.getD k rq0) ls s).2 = 0 := by
    intro k hk ls
    induction ls with
    | nil => exact fun s h _ _ _ _ => h
    | cons x ls ih =>
      intro s hs hlen hrg hnd hg
      rw [List.nodup_cons] at hnd
      have hx := hrg x (by simp)
      have e1 : ldS (rs.getD k rq0) s x = (s.1.set x.toNat (ad (s.1.getD x.toNat rq0) (rs.getD k rq0)).1, (ad (s.1.getD x.toNat rq0) (rs.getD k rq0)).2) := by unfold ldS; rw [if_pos hs]
      refine ih _ ?_ (by rw [ldS_len, hlen]) (fun y hy => hrg y (by simp [hy])) hnd.2 (fun y hy => ?_)
      · rw [e1]
        refine hsm ((hg x (by simp)).add (h k hk)) ?_
        have := Nat.mul_le_mul_right M (show k + 1 ≤ 5 by omega)
        rw [Nat.succ_mul] at this
        exact this
      · rw [e1]
        dsimp only
        have hy2 := hrg y (by simp [hy])
        rw [getD_set (by omega), if_neg (fun e => hnd.1 (by
          have : x = y := by omega
          rw [this]; exact hy))]
        exact hg y (by simp [hy])
  have hK : ∀ k, k ≤ n.flows.length → (ldK n rs k).2 = 0 := by
    intro k
    induction k with
    | zero => exact fun _ => rfl
    | succ k ih =>
      intro hk
      have h0 := ih (by omega)
      obtain ⟨hp, hm⟩ := flo_mem (n := n) (i := k) (by omega)
      refine hF k (by omega) _ _ h0 (ldK_len n rs k) (hl.rg _ hm) (hl.nd _ hm) (fun x hx => ?_)
      have hx2 := hl.rg _ hm x hx
      rw [ldK_val hl k (by omega) h0 x.toNat (by omega)]
      refine sumTo_gd k fun i hi => ?_
      unfold onl
      split
      · exact h i (by omega)
      · exact (Gd.zero D).wide (Nat.zero_le _)
  exact hK _ (Nat.le_refl _)
end Go.Proofs.Ytjalegdfofogcaa
namespace Go.Proofs.Ytjalegdfofogcaa
set_option linter.unusedVariables false
set_option linter.unusedSimpArgs false
open Go.RowKit
section
variable {n : PNet}
/-- The state of a filling: what is frozen is feasible and has its reasons. -/
structure FI (n : PNet) (rs : List Rq) (fz : List Bool) : Prop where
  pos : ∀ i, i < n.flows.length → isF fz i = true → 0 ≤ rt rs i
  dem : ∀ i, i < n.flows.length → isF fz i = true → (flo n i).b = true → rt rs i ≤ Dem n i
  cap : ∀ l, l < n.caps.length → osum n.flows fz rs l n.flows.length ≤ val (n.caps.getD l rq0)
  rsn : ∀ i, i < n.flows.length → isF fz i = true → ((flo n i).b = true ∧ rt rs i = Dem n i) ∨ ∃ l, l < n.caps.length ∧ usesL n.flows i l = true ∧ (∀ j, j < n.flows.length → usesL n.flows j l = true → isF fz j = true) ∧ osum n.flows fz rs l n.flows.length = val (n.caps.getD l rq0) ∧ ∀ j, j < n.flows.length → usesL n.flows j l = true → rt rs j ≤ rt rs i
  top : fz.contains false = true → ∀ i, i < n.flows.length → isF fz i = true → rt rs i ≤ LV n fz rs
theorem cap_pos (hn : NetOk n) {l : Nat} (hl : l < n.caps.length) : 0 ≤ val (n.caps.getD l rq0) := by
  obtain ⟨c, hc⟩ := get_some hl
  rw [List.getD_eq_getElem?_getD, hc, Option.getD_some]
  exact (hn.cap c (List.mem_of_getElem? hc)).2.2
theorem FI.start (hn : NetOk n) : FI n (itr n 0).1 (itr n 0).2 := by
  refine ⟨fun i hi h => ?_, fun i hi h => ?_, fun l hl => ?_, fun i hi h => ?_, fun _ i hi h => ?_⟩
  · rw [zero_isF] at h; cases h
  · rw [zero_isF] at h; cases h
  · rw [osum_zero]; exact cap_pos hn hl
  · rw [zero_isF] at h; cases h
  · rw [zero_isF] at h; cases h
theorem ocnt_none {flows : List PFlow} {fz : List Bool} {l k : Nat} (h : ∀ j, j < k → usesL flows j l = true → isF fz j = true) : ocnt flows fz l k = 0 := by
  refine Classical.byContradiction fun hne => ?_
  obtain ⟨j, hj, h1, h2⟩ := ocnt_ex (show 0 < ocnt flows fz l k by omega)
  rw [h j hj h2] at h1
  cases h1
theorem FI.next {m : Nat} {rs : List Rq} {fz : List Bool} (hn : NetOk n) (hs : StOk n m rs fz) (ho : fz.contains false = true) (h : FI n rs fz) : FI n (stepS n (rs, fz)).1 (stepS n (rs, fz)).2 := by
  have hm := level_few hn hs ho
  have hF : ∀ i, i < n.flows.length → isF (stepS n (rs, fz)).2 i = (isF fz i || (!isF fz i && hereB n fz rs (flo n i))) := fun i hi => isF_step hs.lz hi
  have hR : ∀ i, i < n.flows.length → rt (stepS n (rs, fz)).1 i = if (!isF fz i && hereB n fz rs (flo n i)) = true then LV n fz rs else rt rs i := fun i hi => rt_step hn hs hm hi
  have hold : ∀ i, i < n.flows.length → isF fz i = true → isF (stepS n (rs, fz)).2 i = true ∧ rt (stepS n (rs, fz)).1 i = rt rs i := fun i hi hf => by
    rw [hF i hi, hR i hi, hf]; exact ⟨rfl, rfl⟩
  have hcase : ∀ i, i < n.flows.length → isF (stepS n (rs, fz)).2 i = true → (isF fz i = true ∧ rt (stepS n (rs, fz)).1 i = rt rs i) ∨ (isF fz i = false ∧ hereB n fz rs (flo n i) = true ∧ rt (stepS n (rs, fz)).1 i = LV n fz rs) := by
    intro i hi hf
    cases hf0 : isF fz i with
    | true => exact Or.inl ⟨rfl, (hold i hi hf0).2⟩
    | false =>
      rw [hF i hi, hf0] at hf
      rw [hR i hi, hf0]
      have : hereB n fz rs (flo n i) = true := hf
      rw [this]
      exact Or.inr ⟨rfl, rfl, rfl⟩
  have hnew : ∀ i, i < n.flows.length → hereB n fz rs (flo n i) = true → isF (stepS n (rs, fz)).2 i = true := by
    intro i hi hh
    rw [hF i hi, hh]
    cases isF fz i <;> rfl
  have hpos : 0 ≤ LV n fz rs := by
    rcases lv_att hn hs ho with ⟨l, hl, hu, he⟩ | ⟨i, hi, h1, h2, he⟩
    · rw [← he]
      have hp : (0 : Rat) < ((ocnt n.flows fz l n.flows.length : Nat) : Rat) := Rat.natCast_pos.2 (of_decide_eq_true hu)
      unfold candQ
      rw [le_div hp]
      have := h.cap l hl
      unfold rq0 at this
      grind
    · rw [← he]
      exact (hn.dem _ (flo_mem hi).2).2.2
  have hcapL : ∀ l, l < n.caps.length → LV n fz rs * ((ocnt n.flows fz l n.flows.length : Nat) : Rat) ≤ val (n.caps.getD l rq0) - osum n.flows fz rs l n.flows.length := by
    intro l hl
    by_cases hu : usedB n fz l = true
    · have hp : (0 : Rat) < ((ocnt n.flows fz l n.flows.length : Nat) : Rat) := Rat.natCast_pos.2 (of_decide_eq_true hu)
      have hc := lv_cand hn hs hm hl hu
      unfold candQ at hc
      rwa [le_div hp] at hc
    · have h0 : ocnt n.flows fz l n.flows.length = 0 := by
        have : ¬ 0 < ocnt n.flows fz l n.flows.length := fun hh => hu (decide_eq_true hh)
        omega
      have := h.cap l hl
      rw [h0]
      have e : ((0 : Nat) : Rat) = 0 := rfl
      rw [e, Rat.mul_zero]
      grind
  have hmul : ∀ k : Nat, 0 ≤ LV n fz rs * (k : Rat) := fun k => Rat.mul_nonneg hpos (Rat.natCast_nonneg)
  refine ⟨fun i hi hf => ?_, fun i hi hf hb => ?_, fun l hl => ?_, fun i hi hf => ?_, fun ho' i hi hf => ?_⟩
  · rcases hcase i hi hf with ⟨h1, h2⟩ | ⟨h1, h2, h3⟩
    · rw [h2]; exact h.pos i hi h1
    · rw [h3]; exact hpos
  · rcases hcase i hi hf with ⟨h1, h2⟩ | ⟨h1, h2, h3⟩
    · rw [h2]; exact h.dem i hi h1 hb
    · rw [h3]; exact lv_dem hn hs hm hi h1 hb
  · have h1 := sum_step hn hs hm l (Nat.le_refl n.flows.length)
    have h2 := hcapL l hl
    have h3 := hmul (ocnt n.flows (stepS n (rs, fz)).2 l n.flows.length)
    grind
  · rcases hcase i hi hf with ⟨h1, h2⟩ | ⟨h1, h2, h3⟩
    · rw [h2]
      rcases h.rsn i hi h1 with hr | ⟨l, hl, g1, g2, g3, g4⟩
      · exact Or.inl hr
      · refine Or.inr ⟨l, hl, g1, fun j hj hu => (hold j hj (g2 j hj hu)).1, ?_, fun j hj hu => by rw [(hold j hj (g2 j hj hu)).2]; exact g4 j hj hu⟩
        have e1 := sum_step hn hs hm l (Nat.le_refl n.flows.length)
        rw [ocnt_none (fz := fz) g2, ocnt_none (fz := (stepS n (rs, fz)).2) (fun j hj hu => (hold j hj (g2 j hj hu)).1)] at e1
        grind
    · rw [h3]
      rcases (here_iff hn hs hm hi).1 h2 with ⟨g1, g2⟩ | ⟨l, hl, g1, g2, g3⟩
      · exact Or.inl ⟨g1, g2.symm⟩
      · have hall : ∀ j, j < n.flows.length → usesL n.flows j l = true → isF (stepS n (rs, fz)).2 j = true := fun j hj hu => by
          exact hnew j hj ((here_iff hn hs hm hj).2 (Or.inr ⟨l, hl, hu, g2, g3⟩))
        refine Or.inr ⟨l, hl, g1, hall, ?_, fun j hj hu => ?_⟩
        · have e1 := sum_step hn hs hm l (Nat.le_refl n.flows.length)
          rw [ocnt_none (fz := (stepS n (rs, fz)).2) hall] at e1
          have hp : (0 : Rat) < ((ocnt n.flows fz l n.flows.length : Nat) : Rat) := Rat.natCast_pos.2 (of_decide_eq_true g2)
          have e2 : LV n fz rs * ((ocnt n.flows fz l n.flows.length : Nat) : Rat) = val (n.caps.getD l rq0) - osum n.flows fz rs l n.flows.length := by
            rw [← g3]
            unfold candQ rq0
            exact Rat.div_mul_cancel (by grind)
          have e0 : ((0 : Nat) : Rat) = 0 := rfl
          rw [e0, Rat.mul_zero] at e1
          grind
        · rcases hcase j hj (hall j hj hu) with ⟨k1, k2⟩ | ⟨k1, k2, k3⟩
          · rw [k2]; exact h.top ho j hj k1
          · rw [k3]; exact Rat.le_refl
  · have hrise := lv_rise hn hs ho ho'
    rcases hcase i hi hf with ⟨h1, h2⟩ | ⟨h1, h2, h3⟩
    · rw [h2]; exact Rat.le_trans (h.top ho i hi h1) hrise
    · rw [h3]; exact hrise
theorem FI.all (hn : NetOk n) : ∀ m, (∀ j, j < m → (itr n j).2.contains false = true) → FI n (itr n m).1 (itr n m).2
  | 0, _ => FI.start hn
  | m + 1, h => by
    have hs := itr_ok hn m fun j hj => h j (by omega)
    have := (FI.all hn m fun j hj => h j (by omega)).next hn hs (h m (by omega))
    rw [itr]
    exact this
/-- Water filling is fair. -/
theorem fill_fair (hn : NetOk n) {m : Nat} (hm : Fin n m) : FairA (anet n) (rt (itr n m).1) := by
  have h := FI.all hn m hm.1
  have hall : ∀ i, i < n.flows.length → isF (itr n m).2 i = true := fun i hi => all_frozen (itr_len n m).2 hm.2 hi
  have hld : ∀ l, ldA (anet n) (rt (itr n m).1) l = osum n.flows (itr n m).2 (itr n m).1 l n.flows.length := by
    intro l
    have : ∀ k, k ≤ n.flows.length → sumTo (onl (anet n) l (rt (itr n m).1)) k = osum n.flows (itr n m).2 (itr n m).1 l k := by
      intro k
      induction k with
      | zero => exact fun _ => rfl
      | succ k ih =>
        intro hk
        rw [sumTo, osum, ih (by omega), hall k (by omega), Bool.true_and]
        rfl
    exact this _ (Nat.le_refl _)
  refine ⟨⟨fun i hi => h.pos i hi (hall i hi), fun i hi hb => h.dem i hi (hall i hi) hb, fun l hl => by rw [hld]; exact h.cap l hl⟩, fun i hi => ?_⟩
  rcases h.rsn i hi (hall i hi) with ⟨h1, h2⟩ | ⟨l, hl, g1, g2, g3, g4⟩
  · exact Or.inl ⟨h1, h2⟩
  · exact Or.inr ⟨l, hl, g1, by rw [hld]; exact g3, g4⟩
end
end Go.Proofs.Ytjalegdfofogcaa
