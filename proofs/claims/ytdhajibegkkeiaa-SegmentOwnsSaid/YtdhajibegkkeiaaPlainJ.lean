/- Segment: what segments are joined to, as plain data. No program in sight. -/
import Derived.Test.YtdhajibegkkeiaaPlain
namespace Go.Proofs.Ytdhajibegkkeiaa
set_option linter.unusedVariables false
set_option linter.unusedSimpArgs false
def Seg.fin (s : Seg) : Int := s.off + s.data.length
def Seg.at? (s : Seg) (o : Int) : Option Int := if s.off ≤ o ∧ o < s.fin then some (s.data.getD (o - s.off).toNat 0) else none
/-- The first i bytes of a segment. -/
def Seg.cut (s : Seg) (i : Nat) : Seg := { s with data := s.data.take i }
/-- The byte that the first segment with one has at an offset. -/
def kn : List Seg → Int → Option Int
  | [], _ => none
  | s :: l, o => match s.at? o with
    | some x => some x
    | none => kn l o
def HasL (l : List Seg) (o x : Int) : Prop := ∃ s ∈ l, s.at? o = some x
def Agree (l : List Seg) : Prop := ∀ o x y, HasL l o x → HasL l o y → x = y
def LastBad (l : List Seg) : Prop := ∃ s ∈ l, s.last = true ∧ ∃ t ∈ l, s.fin < t.fin
def Conf (l : List Seg) : Prop := ¬ Agree l ∨ LastBad l
theorem at_iff {s : Seg} {o x : Int} : s.at? o = some x ↔ s.off ≤ o ∧ o < s.fin ∧ s.data.getD (o - s.off).toNat 0 = x := by
  unfold Seg.at?
  split
  · rename_i h; simp [h]
  · rename_i h; simp only [reduceCtorEq, false_iff]; rintro ⟨a, b, _⟩; exact h ⟨a, b⟩
theorem at_none {s : Seg} {o : Int} : s.at? o = none ↔ o < s.off ∨ s.fin ≤ o := by
  unfold Seg.at?
  split <;> simp <;> omega
theorem kn_app (l m : List Seg) (o : Int) : kn (l ++ m) o = (kn l o).or (kn m o) := by
  induction l with
  | nil => rfl
  | cons s l ih =>
    simp only [List.cons_append, kn]
    split
    · simp
    · exact ih
theorem kn_has {l : List Seg} {o x : Int} (h : kn l o = some x) : HasL l o x := by
  induction l with
  | nil => cases h
  | cons s l ih =>
    simp only [kn] at h
    split at h
    · rename_i y hy; exact ⟨s, by simp, by rw [hy]; exact h⟩
    · obtain ⟨t, ht, h2⟩ := ih h; exact ⟨t, by simp [ht], h2⟩
theorem kn_none {l : List Seg} {o : Int} : kn l o = none ↔ ∀ x, ¬ HasL l o x := by
  refine ⟨fun h x hx => ?_, fun h => ?_⟩
  · obtain ⟨s, hs, hx⟩ := hx
    induction l with
    | nil => simp at hs
    | cons t l ih =>
      simp only [kn] at h
      split at h
      · cases h
      · rename_i ht
        rcases List.mem_cons.1 hs with rfl | hs
        · rw [ht] at hx; cases hx
        · exact ih h hs
  · cases hk : kn l o with
    | none => rfl
    | some x => exact absurd (kn_has hk) (h x)
theorem kn_agree {l : List Seg} (ha : Agree l) {o x : Int} (h : HasL l o x) : kn l o = some x := by
  cases hk : kn l o with
  | none => exact absurd h (kn_none.1 hk x)
  | some y => rw [ha o y x (kn_has hk) h]
theorem hasL_app {l m : List Seg} {o x : Int} : HasL (l ++ m) o x ↔ HasL l o x ∨ HasL m o x := by
  unfold HasL
  simp only [List.mem_append]
  exact ⟨fun ⟨s, h, hx⟩ => h.elim (fun h => .inl ⟨s, h, hx⟩) fun h => .inr ⟨s, h, hx⟩, fun h => h.elim (fun ⟨s, h, hx⟩ => ⟨s, .inl h, hx⟩) fun ⟨s, h, hx⟩ => ⟨s, .inr h, hx⟩⟩
theorem hasL_one {s : Seg} {o x : Int} : HasL [s] o x ↔ s.at? o = some x := by simp [HasL]
theorem hasL_take {l : List Seg} {k : Nat} {o x : Int} (h : HasL (l.take k) o x) : HasL l o x := by
  obtain ⟨s, hs, hx⟩ := h; exact ⟨s, List.mem_of_mem_take hs, hx⟩
theorem cut_at {s : Seg} {i : Nat} {o x : Int} (h : (s.cut i).at? o = some x) : s.at? o = some x := by
  rw [at_iff] at h ⊢
  obtain ⟨h1, h2, h3⟩ := h
  simp only [Seg.cut, Seg.fin, List.length_take] at h1 h2 h3
  refine ⟨h1, by simp only [Seg.fin]; omega, ?_⟩
  rw [← h3]
  simp only [List.getD_eq_getElem?_getD]
  rw [List.getElem?_take_of_lt (by omega)]
theorem cut_zero (s : Seg) (o : Int) : (s.cut 0).at? o = none := by rw [at_none]; simp [Seg.cut, Seg.fin]; omega
theorem cut_all (s : Seg) : s.cut s.data.length = s := by simp [Seg.cut]
theorem cut_here {s : Seg} {i : Nat} (hi : i < s.data.length) : (s.cut i).at? (s.off + i) = none := by rw [at_none]; right; simp [Seg.cut, Seg.fin]; omega
theorem cut_next {s : Seg} {i : Nat} (hi : i < s.data.length) (o : Int) : (s.cut (i + 1)).at? o = if o = s.off + i then some (s.data.getD i 0) else (s.cut i).at? o := by
  by_cases ho : o = s.off + i
  · subst ho
    rw [if_pos rfl, at_iff]
    simp only [Seg.cut, Seg.fin, List.length_take]
    refine ⟨by omega, by omega, ?_⟩
    simp only [List.getD_eq_getElem?_getD]
    rw [show (s.off + (i : Int) - s.off).toNat = i by omega, List.getElem?_take_of_lt (by omega)]
  · rw [if_neg ho]
    cases h : (s.cut i).at? o with
    | none =>
      rw [at_none] at h ⊢
      simp only [Seg.cut, Seg.fin, List.length_take] at h ⊢
      omega
    | some x =>
      rw [at_iff] at h ⊢
      simp only [Seg.cut, Seg.fin, List.length_take] at h ⊢
      obtain ⟨h1, h2, h3⟩ := h
      refine ⟨h1, by omega, ?_⟩
      rw [← h3]
      simp only [List.getD_eq_getElem?_getD]
      rw [List.getElem?_take_of_lt (by omega), List.getElem?_take_of_lt (by omega)]
/-- The map after one byte more. -/
theorem kn_next {L : List Seg} {s : Seg} {i : Nat} (hi : i < s.data.length) (h : kn L (s.off + i) = none ∨ kn L (s.off + i) = some (s.data.getD i 0)) (o : Int) :
    kn (L ++ [s.cut (i + 1)]) o = if o = s.off + i then some (s.data.getD i 0) else kn (L ++ [s.cut i]) o := by
  rw [kn_app, kn_app]
  simp only [kn]
  rw [cut_next hi]
  by_cases ho : o = s.off + i
  · subst ho
    simp only [if_true]
    rcases h with h | h <;> rw [h] <;> simp
  · simp only [if_neg ho]
theorem kn_here {L : List Seg} {s : Seg} {i : Nat} (hi : i < s.data.length) : kn (L ++ [s.cut i]) (s.off + i) = kn L (s.off + i) := by
  rw [kn_app]; simp only [kn]; rw [cut_here hi]; simp
theorem kn_zero {L : List Seg} (s : Seg) (o : Int) : kn (L ++ [s.cut 0]) o = kn L o := by rw [kn_app]; simp only [kn]; rw [cut_zero]; simp
theorem agree_next {L : List Seg} {s : Seg} {i : Nat} (hi : i < s.data.length) (ha : Agree (L ++ [s.cut i])) (h : kn L (s.off + i) = none ∨ kn L (s.off + i) = some (s.data.getD i 0)) : Agree (L ++ [s.cut (i + 1)]) := by
  have key : ∀ o x, HasL (L ++ [s.cut (i + 1)]) o x → (o = s.off + i ∧ x = s.data.getD i 0) ∨ (o ≠ s.off + i ∧ HasL (L ++ [s.cut i]) o x) := by
    intro o x hx
    rw [hasL_app, hasL_one, cut_next hi] at hx
    by_cases ho : o = s.off + i
    · subst ho
      refine .inl ⟨rfl, ?_⟩
      rcases hx with hx | hx
      · have haL : Agree L := fun o x y hx hy => ha o x y (hasL_app.2 (.inl hx)) (hasL_app.2 (.inl hy))
        have := kn_agree haL hx
        rw [this] at h
        rcases h with h | h
        · cases h
        · injection h
      · rw [if_pos rfl] at hx; injection hx with hx; exact hx.symm
    · rw [if_neg ho] at hx
      exact .inr ⟨ho, by rw [hasL_app, hasL_one]; exact hx⟩
  intro o x y hx hy
  rcases key o x hx with ⟨h1, h2⟩ | ⟨h1, h2⟩ <;> rcases key o y hy with ⟨h3, h4⟩ | ⟨h3, h4⟩
  · rw [h2, h4]
  · exact absurd h1 h3
  · exact absurd h3 h1
  · exact ha o x y h2 h4
theorem agree_zero {L : List Seg} (s : Seg) (h : Agree L) : Agree (L ++ [s.cut 0]) := by
  have key : ∀ o x, HasL (L ++ [s.cut 0]) o x → HasL L o x := by
    intro o x hx
    rw [hasL_app, hasL_one, cut_zero] at hx
    simpa using hx
  exact fun o x y hx hy => h o x y (key o x hx) (key o y hy)
theorem agree_nil : Agree [] := fun o x y ⟨s, h, _⟩ => by simp at h
theorem agree_sub {l m : List Seg} (h : Agree m) (hs : ∀ s ∈ l, s ∈ m) : Agree l :=
  fun o x y ⟨s, h1, h2⟩ ⟨t, h3, h4⟩ => h o x y ⟨s, hs s h1, h2⟩ ⟨t, hs t h3, h4⟩
theorem not_agree {l : List Seg} {k : Nat} {s : Seg} {i : Nat} {y : Int} (hk : l[k]? = some s) (hi : i < s.data.length) (h : kn (l.take k) (s.off + i) = some y) (hne : y ≠ s.data.getD i 0) : ¬ Agree l := fun ha =>
  hne (ha (s.off + i) _ _ (hasL_take (kn_has h)) ⟨s, List.mem_of_getElem? hk, at_iff.2 ⟨by omega, by unfold Seg.fin; omega, by rw [show (s.off + (i : Int) - s.off).toNat = i by omega]⟩⟩)
/-- How many offsets are known. -/
def cnt (F : Int → Option Int) (lo : Int) : Nat → Nat
  | 0 => 0
  | n + 1 => cnt F lo n + if (F (lo + n)).isSome = true then 1 else 0
theorem cnt_le (F : Int → Option Int) (lo : Int) (n : Nat) : cnt F lo n ≤ n := by
  induction n with
  | zero => simp [cnt]
  | succ n ih => simp only [cnt]; split <;> omega
theorem cnt_full (F : Int → Option Int) (lo : Int) (n : Nat) : cnt F lo n = n ↔ ∀ j, j < n → (F (lo + j)).isSome = true := by
  induction n with
  | zero => simp [cnt]
  | succ n ih =>
    simp only [cnt]
    have := cnt_le F lo n
    constructor
    · intro h j hj
      split at h
      · rename_i hs
        by_cases e : j = n
        · subst e; exact hs
        · exact ih.1 (by omega) j (by omega)
      · omega
    · intro h
      rw [if_pos (h n (by omega)), ih.2 fun j hj => h j (by omega)]
theorem cnt_congr {F G : Int → Option Int} (lo : Int) (n : Nat) (h : ∀ o, (F o).isSome = (G o).isSome) : cnt F lo n = cnt G lo n := by
  induction n with
  | zero => rfl
  | succ n ih => simp only [cnt, ih, h]
theorem cnt_none {F : Int → Option Int} (lo : Int) (n : Nat) (h : ∀ o, F o = none) : cnt F lo n = 0 := by
  induction n with
  | zero => rfl
  | succ n ih => simp [cnt, ih, h]
theorem cnt_put {F G : Int → Option Int} {lo o : Int} {n : Nat} {y : Int} (hG : ∀ z, G z = if z = o then some y else F z) (h : F o = none) (h1 : lo ≤ o) (h2 : o < lo + n) : cnt G lo n = cnt F lo n + 1 := by
  induction n with
  | zero => omega
  | succ n ih =>
    simp only [cnt]
    by_cases e : o = lo + n
    · have hr : cnt G lo n = cnt F lo n := by
        clear ih h2
        have hb : ∀ m : Nat, m ≤ n → cnt G lo m = cnt F lo m := by
          intro m hm
          induction m with
          | zero => rfl
          | succ m ihm =>
          have e2 : G (lo + m) = F (lo + m) := by rw [hG, if_neg (by omega)]
          simp only [cnt, ihm (by omega), e2]
        exact hb n (Nat.le_refl _)
      have e2 : G (lo + n) = some y := by rw [hG, if_pos e.symm]
      rw [hr, e2, ← e, h]; simp
    · have e2 : G (lo + n) = F (lo + n) := by rw [hG, if_neg (by omega)]
      rw [ih (by omega), e2]; omega
theorem cnt_same {F G : Int → Option Int} {lo o : Int} {n : Nat} {y : Int} (hG : ∀ z, G z = if z = o then some y else F z) (h : (F o).isSome = true) : cnt G lo n = cnt F lo n :=
  cnt_congr lo n fun z => by rw [hG]; split; subst_vars; rw [h]; rfl; rfl
/-- Least and greatest offset. -/
def lo0 (d : Int) (l : List Seg) : Int := l.foldl (fun m s => min m s.off) d
def hi0 (d : Int) (l : List Seg) : Int := l.foldl (fun m s => max m s.fin) d
theorem lo0_snoc (d : Int) (l : List Seg) (s : Seg) : lo0 d (l ++ [s]) = min (lo0 d l) s.off := by simp [lo0]
theorem hi0_snoc (d : Int) (l : List Seg) (s : Seg) : hi0 d (l ++ [s]) = max (hi0 d l) s.fin := by simp [hi0]
theorem lo0_le (d : Int) (l : List Seg) : lo0 d l ≤ d ∧ (∀ s ∈ l, lo0 d l ≤ s.off) ∧ (lo0 d l = d ∨ ∃ s ∈ l, s.off = lo0 d l) := by
  induction l generalizing d with
  | nil => simp [lo0]
  | cons s l ih =>
    have h : lo0 d (s :: l) = lo0 (min d s.off) l := rfl
    obtain ⟨h1, h2, h3⟩ := ih (min d s.off)
    rw [h]
    refine ⟨by omega, ?_, ?_⟩
    · intro t ht
      rcases List.mem_cons.1 ht with rfl | ht
      · omega
      · exact h2 t ht
    · rcases h3 with h3 | ⟨t, ht, h3⟩
      · rcases Int.le_total d s.off with h4 | h4
        · left; omega
        · right; exact ⟨s, by simp, by omega⟩
      · right; exact ⟨t, by simp [ht], h3⟩
theorem hi0_le (d : Int) (l : List Seg) : d ≤ hi0 d l ∧ (∀ s ∈ l, s.fin ≤ hi0 d l) ∧ (hi0 d l = d ∨ ∃ s ∈ l, s.fin = hi0 d l) := by
  induction l generalizing d with
  | nil => simp [hi0]
  | cons s l ih =>
    have h : hi0 d (s :: l) = hi0 (max d s.fin) l := rfl
    obtain ⟨h1, h2, h3⟩ := ih (max d s.fin)
    rw [h]
    refine ⟨by omega, ?_, ?_⟩
    · intro t ht
      rcases List.mem_cons.1 ht with rfl | ht
      · omega
      · exact h2 t ht
    · rcases h3 with h3 | ⟨t, ht, h3⟩
      · rcases Int.le_total d s.fin with h4 | h4
        · right; exact ⟨s, by simp, by omega⟩
        · left; omega
      · right; exact ⟨t, by simp [ht], h3⟩
def IsLow (l : List Seg) (m : Int) : Prop := (∃ s ∈ l, s.off = m) ∧ ∀ s ∈ l, m ≤ s.off
def IsHigh (l : List Seg) (m : Int) : Prop := (∃ s ∈ l, s.fin = m) ∧ ∀ s ∈ l, s.fin ≤ m
theorem isLow_of {l : List Seg} {s : Seg} (hs : s ∈ l) : IsLow l (lo0 s.off l) := by
  obtain ⟨h1, h2, h3⟩ := lo0_le s.off l
  exact ⟨h3.elim (fun h => ⟨s, hs, h.symm⟩) id, h2⟩
theorem isHigh_of {l : List Seg} {d : Int} (hd : ∃ s ∈ l, d ≤ s.fin) : IsHigh l (hi0 d l) := by
  obtain ⟨h1, h2, h3⟩ := hi0_le d l
  obtain ⟨s, hs, hds⟩ := hd
  refine ⟨h3.elim (fun h => ⟨s, hs, ?_⟩) id, h2⟩
  have := h2 s hs
  omega
theorem isLow_uniq {l : List Seg} {a b : Int} (h : IsLow l a) (k : IsLow l b) : a = b := by
  obtain ⟨⟨s, hs, e1⟩, h1⟩ := h
  obtain ⟨⟨t, ht, e2⟩, h2⟩ := k
  have := h1 t ht
  have := h2 s hs
  omega
theorem isHigh_uniq {l : List Seg} {a b : Int} (h : IsHigh l a) (k : IsHigh l b) : a = b := by
  obtain ⟨⟨s, hs, e1⟩, h1⟩ := h
  obtain ⟨⟨t, ht, e2⟩, h2⟩ := k
  have := h1 t ht
  have := h2 s hs
  omega
def AllV (l : List Seg) : Prop := ∀ s ∈ l, validB s = true
def anyL (l : List Seg) : Bool := l.any (·.last)
theorem anyL_snoc (l : List Seg) (s : Seg) : anyL (l ++ [s]) = (anyL l || s.last) := by simp [anyL]
structure Res where
  data : List Int
  off : Int
  last : Bool
  e : Int
def errR (e : Int) : Res := ⟨[], 0, false, e⟩
def Gap (l : List Seg) (lo hi : Int) : Prop := ∃ o, lo ≤ o ∧ o < hi ∧ kn l o = none
/-- What segments are joined to. -/
inductive JoinIs (l : List Seg) : Res → Prop
  | full (h : 1000 < l.length) : JoinIs l (errR 5)
  | bad (h : l.length ≤ 1000) (hv : ¬ AllV l) : JoinIs l (errR 1)
  | none_ (h : l = []) : JoinIs l (errR 0)
  | conf (h : l.length ≤ 1000) (hv : AllV l) (hn : l ≠ []) (hc : Conf l) : JoinIs l (errR 3)
  | gap {lo hi : Int} (h : l.length ≤ 1000) (hv : AllV l) (hn : l ≠ []) (hc : ¬ Conf l) (h1 : IsLow l lo) (h2 : IsHigh l hi) (hg : Gap l lo hi) : JoinIs l (errR 4)
  | ok {lo hi : Int} {data : List Int} (h : l.length ≤ 1000) (hv : AllV l) (hn : l ≠ []) (hc : ¬ Conf l) (h1 : IsLow l lo) (h2 : IsHigh l hi) (hl : (data.length : Int) = hi - lo)
      (hd : ∀ i : Nat, i < data.length → kn l (lo + i) = some (data.getD i 0)) : JoinIs l ⟨data, lo, anyL l, 0⟩
theorem list_getD_ext {l m : List Int} (hl : l.length = m.length) (h : ∀ i, i < l.length → l.getD i 0 = m.getD i 0) : l = m := by
  refine List.ext_getElem hl fun i h1 h2 => ?_
  have := h i h1
  simpa [List.getD_eq_getElem?_getD, List.getElem?_eq_getElem h1, List.getElem?_eq_getElem h2] using this
theorem joinIs_uniq {l : List Seg} {r r' : Res} (h : JoinIs l r) (k : JoinIs l r') : r = r' := by
  have hgo : ∀ {lo hi : Int} {data : List Int}, Gap l lo hi → (data.length : Int) = hi - lo → (∀ i : Nat, i < data.length → kn l (lo + i) = some (data.getD i 0)) → False := by
    rintro lo hi data ⟨o, h1, h2, h3⟩ hl hd
    have := hd (o - lo).toNat (by omega)
    rw [show lo + ((o - lo).toNat : Int) = o by omega, h3] at this
    cases this
  have vn : ∀ {p : Prop}, l = [] → ¬ AllV l → p := by rintro p rfl h; exact absurd (fun s hs => by simp at hs) h
  have fn : ∀ {p : Prop}, l = [] → 1000 < l.length → p := by rintro p rfl h; simp at h
  cases h with
  | full h =>
    cases k with
    | full _ => rfl
    | none_ e => exact fn e h
    | bad h' => omega
    | conf h' => omega
    | gap h' => omega
    | ok h' => omega
  | bad h hv =>
    cases k with
    | full h' => omega
    | none_ e => exact vn e hv
    | bad h' => rfl
    | conf _ h' => exact absurd h' hv
    | gap _ h' => exact absurd h' hv
    | ok _ h' => exact absurd h' hv
  | none_ e =>
    cases k with
    | full h' => exact fn e h'
    | none_ e => rfl
    | bad _ h' => exact vn e h'
    | conf _ _ h' => exact absurd e h'
    | gap _ _ h' => exact absurd e h'
    | ok _ _ h' => exact absurd e h'
  | conf h hv hn hc =>
    cases k with
    | full h' => omega
    | none_ e => exact absurd e hn
    | bad _ h' => exact absurd hv h'
    | conf _ _ h' => rfl
    | gap _ _ _ h' => exact absurd hc h'
    | ok _ _ _ h' => exact absurd hc h'
  | gap h hv hn hc h1 h2 hg =>
    cases k with
    | full h' => omega
    | none_ e => exact absurd e hn
    | bad _ h' => exact absurd hv h'
    | conf _ _ _ h' => exact absurd h' hc
    | gap => rfl
    | ok _ _ _ _ k1 k2 hl hd =>
      obtain rfl := isLow_uniq h1 k1
      obtain rfl := isHigh_uniq h2 k2
      exact absurd hd fun hd => hgo hg hl hd
  | ok h hv hn hc h1 h2 hl hd =>
    cases k with
    | full h' => omega
    | none_ e => exact absurd e hn
    | bad _ h' => exact absurd hv h'
    | conf _ _ _ h' => exact absurd h' hc
    | gap _ _ _ _ k1 k2 hg =>
      obtain rfl := isLow_uniq h1 k1
      obtain rfl := isHigh_uniq h2 k2
      exact absurd hd fun hd => hgo hg hl hd
    | ok _ _ _ _ k1 k2 kl kd =>
      obtain rfl := isLow_uniq h1 k1
      obtain rfl := isHigh_uniq h2 k2
      congr 1
      refine list_getD_ext (by omega) fun i hi => ?_
      have h3 := hd i hi
      rw [kd i (by omega)] at h3
      injection h3 with h3
      exact h3.symm
/-- Lists of segments that say the same are joined to the same. -/
theorem joinIs_alike {l m : List Seg} {r : Res} (h : JoinIs l r) (hl : l.length ≤ 1000) (hm : m.length ≤ 1000) (hv : AllV l) (hvm : AllV m) (hn : l ≠ []) (hnm : m ≠ [])
    (hk : ∀ o x, HasL l o x ↔ HasL m o x) (hlo : ∀ a, IsLow l a → IsLow m a) (hhi : ∀ a, IsHigh l a → IsHigh m a) (hlb : LastBad l ↔ LastBad m) (hla : anyL l = anyL m) : JoinIs m r := by
  have hag : Agree l ↔ Agree m := by unfold Agree; simp only [hk]
  have hcf : Conf l ↔ Conf m := by unfold Conf; rw [hag, hlb]
  have hkn : ∀ o, kn l o = none → kn m o = none := fun o h => kn_none.2 fun x hx => kn_none.1 h x ((hk o x).2 hx)
  cases h with
  | full h => omega
  | bad _ h => exact absurd hv h
  | none_ e => exact absurd e hn
  | conf _ _ _ hc => exact .conf hm hvm hnm (hcf.1 hc)
  | gap _ _ _ hc h1 h2 hg =>
    obtain ⟨o, g1, g2, g3⟩ := hg
    exact .gap hm hvm hnm (fun h => hc (hcf.2 h)) (hlo _ h1) (hhi _ h2) ⟨o, g1, g2, hkn o g3⟩
  | ok _ _ _ hc h1 h2 hl hd =>
    rw [hla]
    have ha : Agree m := by
      refine Classical.byContradiction fun h => hc (hcf.2 (.inl h))
    exact .ok hm hvm hnm (fun h => hc (hcf.2 h)) (hlo _ h1) (hhi _ h2) hl fun i hi => kn_agree ha ((hk _ _).1 (kn_has (hd i hi)))
/-- The bytes of a full range. -/
def dat (l : List Seg) (lo : Int) (n : Nat) : List Int := (List.range n).map fun j : Nat => (kn l (lo + (j : Int))).getD 0
theorem dat_len (l : List Seg) (lo : Int) (n : Nat) : (dat l lo n).length = n := by simp [dat]
theorem dat_get {l : List Seg} {lo : Int} {n i : Nat} (h : i < n) : (dat l lo n).getD i 0 = (kn l (lo + i)).getD 0 := by
  simp [dat, List.getD_eq_getElem?_getD, h]
theorem dat_nil (lo : Int) (n : Nat) : dat [] lo n = List.replicate n 0 := by
  refine list_getD_ext (by simp [dat]) fun i hi => ?_
  rw [dat_len] at hi
  rw [dat_get hi]
  simp [kn, List.getD_eq_getElem?_getD, hi]
/-- One segment's bytes copied into their place. -/
theorem dat_next {l : List Seg} {lo : Int} {n k : Nat} {s : Seg} (ha : Agree l) (hk : l[k]? = some s) (h1 : lo ≤ s.off) (h2 : s.fin ≤ lo + n) :
    dat (l.take k ++ [s]) lo n = (dat (l.take k) lo n).take (s.off - lo).toNat ++ s.data ++ (dat (l.take k) lo n).drop ((s.off - lo).toNat + s.data.length) := by
  have hf : s.fin = s.off + s.data.length := rfl
  have hlen : ((dat (l.take k) lo n).take (s.off - lo).toNat).length = (s.off - lo).toNat := by rw [List.length_take, dat_len]; omega
  have hs : s ∈ l := List.mem_of_getElem? hk
  refine list_getD_ext (by simp only [List.length_append, hlen, List.length_drop, dat_len]; omega) fun i hi => ?_
  rw [dat_len] at hi
  rw [dat_get hi]
  simp only [List.getD_eq_getElem?_getD, List.append_assoc, List.getElem?_append, hlen]
  by_cases c1 : i < (s.off - lo).toNat
  · rw [if_pos c1, List.getElem?_take_of_lt c1]
    have := dat_get (l := l.take k) (lo := lo) hi
    rw [List.getD_eq_getElem?_getD] at this
    rw [this, kn_app]
    simp only [kn]
    rw [at_none.2 (by omega)]
    simp
  · rw [if_neg c1]
    by_cases c2 : i - (s.off - lo).toNat < s.data.length
    · rw [if_pos c2]
      have hx : s.at? (lo + i) = some (s.data.getD (i - (s.off - lo).toNat) 0) := at_iff.2 ⟨by omega, by omega, by rw [show (lo + (i : Int) - s.off).toNat = i - (s.off - lo).toNat by omega]⟩
      have ha2 : Agree (l.take k ++ [s]) := agree_sub ha fun t ht => by
        rcases List.mem_append.1 ht with ht | ht
        · exact List.mem_of_mem_take ht
        · simp at ht; rw [ht]; exact hs
      rw [kn_agree ha2 (hasL_app.2 (.inr (hasL_one.2 hx)))]
      simp [List.getD_eq_getElem?_getD]
    · rw [if_neg c2, List.getElem?_drop]
      have := dat_get (l := l.take k) (lo := lo) hi
      rw [List.getD_eq_getElem?_getD] at this
      rw [show (s.off - lo).toNat + s.data.length + (i - (s.off - lo).toNat - s.data.length) = i by omega, this, kn_app]
      simp only [kn]
      rw [at_none.2 (by omega)]
      simp
end Go.Proofs.Ytdhajibegkkeiaa
