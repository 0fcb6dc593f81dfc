/- The level of a link, plain. The exchange, plain: states, the least bound of a flow, what a round answers for a link. -/
import Derived.Test.YtjalegdfofogcaaSrtZ
import Derived.Test.YtjalegdfofogcaaLawQ
namespace Go.Proofs.Ytjalegdfofogcaa
set_option linter.unusedVariables false
set_option linter.unusedSimpArgs false
open Go.RowKit
def sumL (f : Rq → Rat) : List Rq → Rat
  | [] => 0
  | x :: l => f x + sumL f l
theorem sumL_perm {f : Rq → Rat} {a b : List Rq} (h : a.Perm b) : sumL f a = sumL f b := by
  induction h with
  | nil => rfl
  | cons x _ ih => unfold sumL; rw [ih]
  | swap x y l => unfold sumL; unfold sumL; grind
  | trans _ _ i1 i2 => exact i1.trans i2
theorem sumL_append {f : Rq → Rat} (a b : List Rq) : sumL f (a ++ b) = sumL f a + sumL f b := by
  induction a with
  | nil => show sumL f b = 0 + sumL f b; rw [Rat.zero_add]
  | cons x a ih => show f x + sumL f (a ++ b) = f x + sumL f a + sumL f b; rw [ih]; grind
theorem sumL_congr {f g : Rq → Rat} {a : List Rq} (h : ∀ x ∈ a, f x = g x) : sumL f a = sumL g a := by
  induction a with
  | nil => rfl
  | cons x a ih =>
    unfold sumL
    rw [h x (by simp), ih (fun y hy => h y (by simp [hy]))]
theorem sumL_to {f : Rq → Rat} (l : List Rq) : sumTo (fun j => f (l.getD j rq0)) l.length = sumL f l := by
  have h : ∀ k, k ≤ l.length → sumTo (fun j => f (l.getD j rq0)) k = sumL f (l.take k) := by
    intro k
    induction k with
    | zero => intro _; rfl
    | succ k ih =>
      intro hk
      obtain ⟨x, hx⟩ := get_some (show k < l.length by omega)
      rw [sumTo, ih (by omega), take_next hx, sumL_append]
      have : l.getD k rq0 = x := by rw [List.getD_eq_getElem?_getD, hx]; rfl
      rw [this]
      show _ = sumL f (l.take k) + (f x + 0)
      rw [Rat.add_zero]
  rw [h _ (Nat.le_refl _), List.take_length]
/-- What the level of a link is, by the list of its flows' limits and the number of flows without one. -/
def LevelOk (C : Rat) (lims : List Rq) (p : Nat) (v : Rat) : Prop := 0 ≤ v ∧ sumL (fun x => mn (some (val x)) v) lims + (p : Rat) * v = C ∧ (0 < p ∨ (∃ x ∈ lims, v ≤ val x) ∨ (lims = [] ∧ p = 0 ∧ v = 0))
def LevelNo (C : Rat) (lims : List Rq) (p : Nat) : Prop := p = 0 ∧ sumL val lims < C
theorem mn_of_le {q v : Rat} (h : q ≤ v) : mn (some q) v = q := by rw [mn_some, if_pos h]
theorem mn_of_ge {q v : Rat} (h : v ≤ q) : mn (some q) v = v := by
  rw [mn_some]
  split
  · grind
  · rfl
/-- The numbers taken so far are below the average of what is left. -/
def Taken (C : Rat) (F : Nat) (S : List Rq) (k : Nat) : Prop := ∀ j, j < k → val (S.getD j rq0) * ((F - j : Nat) : Rat) < C - sumTo (fun i => val (S.getD i rq0)) j
theorem Taken.avg {C : Rat} {F : Nat} {S : List Rq} (hC : 0 ≤ C) : ∀ k, Taken C F S k → k < F → ∀ v, v * ((F - k : Nat) : Rat) = C - sumTo (fun i => val (S.getD i rq0)) k → (∀ j, j < k → val (S.getD j rq0) < v) ∧ 0 ≤ v
  | 0, _, hk, v, hv => by
    refine ⟨fun j hj => by omega, ?_⟩
    rw [Nat.sub_zero] at hv
    have hF : (0 : Rat) < (F : Rat) := Rat.natCast_pos.2 hk
    have h0 : sumTo (fun i => val (S.getD i rq0)) 0 = 0 := rfl
    rw [h0] at hv
    refine Classical.byContradiction fun hn => ?_
    have hn : v < 0 := by grind
    have h1 : v * (F : Rat) < 0 * (F : Rat) := Rat.mul_lt_mul_of_pos_right hn hF
    rw [Rat.zero_mul] at h1
    grind
  | k + 1, h, hk, v, hv => by
    have hpos : (0 : Rat) < ((F - k : Nat) : Rat) := Rat.natCast_pos.2 (by omega)
    have hpos1 : (0 : Rat) < ((F - (k + 1) : Nat) : Rat) := Rat.natCast_pos.2 (by omega)
    obtain ⟨u, hu⟩ : ∃ u, u * ((F - k : Nat) : Rat) = C - sumTo (fun i => val (S.getD i rq0)) k := ⟨(C - sumTo (fun i => val (S.getD i rq0)) k) / ((F - k : Nat) : Rat), Rat.div_mul_cancel (by grind)⟩
    obtain ⟨h1, h2⟩ := Taken.avg hC k (fun j hj => h j (by omega)) (by omega) u hu
    have hk1 := h k (by omega)
    rw [← hu] at hk1
    have hsu : val (S.getD k rq0) < u := by
      refine Classical.byContradiction fun hn => ?_
      have hn : u ≤ val (S.getD k rq0) := by grind
      have := Rat.mul_le_mul_of_nonneg_right hn (Rat.le_of_lt hpos)
      grind
    have hcast : ((F - k : Nat) : Rat) = ((F - (k + 1) : Nat) : Rat) + 1 := by
      rw [show F - k = F - (k + 1) + 1 by omega, Rat.natCast_add]
      rfl
    have hS : sumTo (fun i => val (S.getD i rq0)) (k + 1) = sumTo (fun i => val (S.getD i rq0)) k + val (S.getD k rq0) := rfl
    rw [hS] at hv
    have huv : u < v := by
      refine Classical.byContradiction fun hn => ?_
      have hn : v ≤ u := by grind
      have h3 := Rat.mul_le_mul_of_nonneg_right hn (Rat.le_of_lt hpos1)
      rw [hcast] at hu
      have h4 : u * (((F - (k + 1) : Nat) : Rat) + 1) = u * ((F - (k + 1) : Nat) : Rat) + u := by rw [Rat.mul_add, Rat.mul_one]
      grind
    refine ⟨fun j hj => ?_, by grind⟩
    by_cases e : j = k
    · subst e; grind
    · have := h1 j (by omega)
      grind
theorem sum_const {v : Rat} {f : Nat → Rat} {k : Nat} : ∀ d, (∀ j, k ≤ j → j < k + d → f j = v) → sumTo f (k + d) = sumTo f k + (d : Rat) * v
  | 0, _ => by
    have : ((0 : Nat) : Rat) = 0 := rfl
    rw [Nat.add_zero, this, Rat.zero_mul, Rat.add_zero]
  | d + 1, h => by
    rw [show k + (d + 1) = (k + d) + 1 by omega, sumTo, sum_const d (fun j h1 h2 => h j h1 (by omega)), h (k + d) (by omega) (by omega), Rat.natCast_add]
    have : ((1 : Nat) : Rat) = 1 := rfl
    rw [this, Rat.add_mul, Rat.one_mul]
    grind
/-- The level behind k numbers. -/
theorem level_at {C : Rat} {S : List Rq} {p k : Nat} {v : Rat} (hC : 0 ≤ C) (hs : Srt S S.length) (ht : Taken C (S.length + p) S k) (hk : k ≤ S.length) (hF : k < S.length + p) (hv : v * ((S.length + p - k : Nat) : Rat) = C - sumTo (fun i => val (S.getD i rq0)) k) (hst : k < S.length → v ≤ val (S.getD k rq0)) : LevelOk C S p v := by
  obtain ⟨h1, h2⟩ := Taken.avg hC k ht hF v hv
  refine ⟨h2, ?_, ?_⟩
  · have ha : ∀ j, k ≤ j → j < S.length → v ≤ val (S.getD j rq0) := by
      intro j hj hl
      by_cases e : k = j
      · subst e; exact hst hl
      · exact Rat.le_trans (hst (by omega)) (hs k j (by omega) (by omega) hl)
    rw [← sumL_to]
    have e1 : sumTo (fun j => mn (some (val (S.getD j rq0))) v) (k + (S.length - k)) = sumTo (fun j => mn (some (val (S.getD j rq0))) v) k + ((S.length - k : Nat) : Rat) * v := by
      refine sum_const _ fun j h3 h4 => mn_of_ge (ha j h3 (by omega))
    rw [show k + (S.length - k) = S.length by omega] at e1
    rw [e1]
    have e2 : sumTo (fun j => mn (some (val (S.getD j rq0))) v) k = sumTo (fun j => val (S.getD j rq0)) k := sumTo_congr _ fun j hj => mn_of_le (Rat.le_of_lt (h1 j hj))
    rw [e2]
    have e3 : ((S.length + p - k : Nat) : Rat) = ((S.length - k : Nat) : Rat) + (p : Rat) := by
      rw [← Rat.natCast_add]
      congr 1
      omega
    rw [e3, Rat.mul_add] at hv
    have e4 : v * ((S.length - k : Nat) : Rat) = ((S.length - k : Nat) : Rat) * v := Rat.mul_comm _ _
    have e5 : v * (p : Rat) = (p : Rat) * v := Rat.mul_comm _ _
    grind
  · by_cases hp : 0 < p
    · exact Or.inl hp
    · obtain ⟨x, hx⟩ := get_some (show k < S.length by omega)
      refine Or.inr (Or.inl ⟨x, List.mem_of_getElem? hx, ?_⟩)
      have := hst (by omega)
      rwa [List.getD_eq_getElem?_getD, hx] at this
/-- No level. -/
theorem level_no {C : Rat} {S : List Rq} (h : 0 < C - sumTo (fun i => val (S.getD i rq0)) S.length) : LevelNo C S 0 := by
  rw [sumL_to] at h
  exact ⟨rfl, by grind⟩
theorem level_nil {C : Rat} {S : List Rq} (hC : 0 ≤ C) (ht : Taken C S.length S S.length) (h : C - sumTo (fun i => val (S.getD i rq0)) S.length ≤ 0) : S = [] ∧ C = 0 := by
  cases S with
  | nil =>
    have h0 : sumTo (fun i => val (([] : List Rq).getD i rq0)) ([] : List Rq).length = 0 := rfl
    rw [h0] at h
    exact ⟨rfl, by grind⟩
  | cons x S =>
    exfalso
    have := ht S.length (by rw [List.length_cons]; omega)
    rw [List.length_cons, show S.length + 1 - S.length = 1 by omega] at this
    rw [List.length_cons, sumTo] at h
    have e : ((1 : Nat) : Rat) = 1 := rfl
    rw [e, Rat.mul_one] at this
    grind
theorem LevelOk.perm {C : Rat} {S T : List Rq} {p : Nat} {v : Rat} (h : LevelOk C S p v) (hp : S.Perm T) : LevelOk C T p v := by
  refine ⟨h.1, by rw [← sumL_perm hp]; exact h.2.1, ?_⟩
  rcases h.2.2 with h1 | ⟨x, h1, h2⟩ | ⟨h1, h2⟩
  · exact Or.inl h1
  · exact Or.inr (Or.inl ⟨x, hp.mem_iff.1 h1, h2⟩)
  · subst h1
    rw [List.nil_perm] at hp
    exact Or.inr (Or.inr ⟨hp, h2⟩)
theorem LevelNo.perm {C : Rat} {S T : List Rq} {p : Nat} (h : LevelNo C S p) (hp : S.Perm T) : LevelNo C T p := ⟨h.1, by rw [← sumL_perm hp]; exact h.2⟩
theorem sumL_norm {f : Rat → Rat} {l : List Rq} (h : AllOk l) : sumL (fun x => f (val x)) (l.map normQ) = sumL (fun x => f (val x)) l := by
  induction l with
  | nil => rfl
  | cons x l ih =>
    rw [List.map_cons]
    unfold sumL
    rw [ih (fun y hy => h y (by simp [hy])), val_norm (h x (by simp))]
theorem LevelOk.norm {C : Rat} {l : List Rq} {p : Nat} {v : Rat} (hl : AllOk l) (h : LevelOk C (l.map normQ) p v) : LevelOk C l p v := by
  refine ⟨h.1, ?_, ?_⟩
  · rw [← sumL_norm (f := fun q => mn (some q) v) hl]; exact h.2.1
  · rcases h.2.2 with h1 | ⟨x, h1, h2⟩ | ⟨h1, h2⟩
    · exact Or.inl h1
    · obtain ⟨y, hy, rfl⟩ := List.mem_map.1 h1
      exact Or.inr (Or.inl ⟨y, hy, by rwa [val_norm (hl y hy)] at h2⟩)
    · exact Or.inr (Or.inr ⟨List.map_eq_nil_iff.1 h1, h2⟩)
theorem LevelNo.norm {C : Rat} {l : List Rq} {p : Nat} (hl : AllOk l) (h : LevelNo C (l.map normQ) p) : LevelNo C l p := ⟨h.1, by have := sumL_norm (f := fun q => q) hl; rw [← this]; exact h.2⟩
end Go.Proofs.Ytjalegdfofogcaa
namespace Go.Proofs.Ytjalegdfofogcaa
set_option linter.unusedVariables false
set_option linter.unusedSimpArgs false
open Go.RowKit
/-- A state, and where it lies. -/
structure PSt where
  sh : List Rq
  sA : Option Addr
  sk : Nat
  op : List Bool
  oA : Option Addr
  ok : Nat
def sval (s : PSt) : Value := .agg #[.slice s.sA s.sh.length s.sk, .slice s.oA s.op.length s.ok]
/-- The share of a link; none: it is open. -/
def shO (s : PSt) (l : Nat) : Option Rat := if s.op.getD l false then none else some (val (s.sh.getD l rq0))
theorem shO_some {s : PSt} {l : Nat} {q : Rat} : shO s l = some q ↔ s.op.getD l false = false ∧ q = val (s.sh.getD l rq0) := by
  unfold shO
  cases h : s.op.getD l false with
  | true => simp
  | false =>
    simp only [Bool.false_eq_true, if_false, Option.some.injEq, true_and]
    exact eq_comm
def lsS (s : PSt) (other : Int) (a : Rq × Bool) (l : Int) : Rq × Bool :=
  if l = other ∨ s.op.getD l.toNat false = true then a
  else if a.2 = false ∨ cmpQ (s.sh.getD l.toNat rq0) a.1 < 0 then (s.sh.getD l.toNat rq0, true) else a
def lsK (n : PNet) (s : PSt) (i : Nat) (other : Int) (k : Nat) : Rq × Bool := ((flo n i).ls.take k).foldl (lsS s other) ((flo n i).d, (flo n i).b)
/-- What least answers. -/
def lsF (n : PNet) (s : PSt) (i : Nat) (other : Int) : Rq × Bool :=
  (if (lsK n s i other (flo n i).ls.length).1.n = 0 then ⟨0, 1⟩ else (lsK n s i other (flo n i).ls.length).1, (lsK n s i other (flo n i).ls.length).2)
theorem lsK_next {n : PNet} {s : PSt} {i k : Nat} {other x : Int} (h : (flo n i).ls[k]? = some x) : lsK n s i other (k + 1) = lsS s other (lsK n s i other k) x := by
  unfold lsK
  rw [take_next h, List.foldl_append]
  rfl
/-- A state's numbers. -/
structure StNum (nl : Nat) (s : PSt) : Prop where
  ls : s.sh.length = nl
  lo : s.op.length = nl
  ok : AllOk s.sh
  nn : ∀ r ∈ s.sh, 0 ≤ r.n
theorem StNum.nn' {nl : Nat} {s : PSt} (h : StNum nl s) (l : Nat) : 0 ≤ (s.sh.getD l rq0).n := by
  rw [List.getD_eq_getElem?_getD]
  cases hl : s.sh[l]? with
  | none => decide
  | some r => exact h.nn r (List.mem_of_getElem? hl)
/-- A bound by the demand or by one of the first k links. -/
def BndK (n : PNet) (s : PSt) (i : Nat) (other : Int) (k : Nat) (q : Rat) : Prop := ((flo n i).b = true ∧ q = val (flo n i).d) ∨ ∃ (j : Nat) (x : Int), j < k ∧ (flo n i).ls[j]? = some x ∧ x ≠ other ∧ s.op.getD x.toNat false = false ∧ q = val (s.sh.getD x.toNat rq0)
theorem BndK_next {n : PNet} {s : PSt} {i k : Nat} {other x : Int} {q : Rat} (h : (flo n i).ls[k]? = some x) : BndK n s i other (k + 1) q ↔ BndK n s i other k q ∨ (x ≠ other ∧ s.op.getD x.toNat false = false ∧ q = val (s.sh.getD x.toNat rq0)) := by
  constructor
  · rintro (hd | ⟨j, y, hj, hy, h1, h2, h3⟩)
    · exact Or.inl (Or.inl hd)
    · by_cases e : j = k
      · subst e
        rw [h] at hy
        injection hy with hy
        subst hy
        exact Or.inr ⟨h1, h2, h3⟩
      · exact Or.inl (Or.inr ⟨j, y, by omega, hy, h1, h2, h3⟩)
  · rintro ((hd | ⟨j, y, hj, hy, h1⟩) | h1)
    · exact Or.inl hd
    · exact Or.inr ⟨j, y, by omega, hy, h1⟩
    · exact Or.inr ⟨k, x, by omega, h, h1⟩
structure LsI (n : PNet) (s : PSt) (i : Nat) (other : Int) (k : Nat) (a : Rq × Bool) : Prop where
  ok : okQ a.1 = true
  nn : 0 ≤ a.1.n
  no : a.2 = false → ∀ q, ¬ BndK n s i other k q
  yes : a.2 = true → BndK n s i other k (val a.1) ∧ ∀ q, BndK n s i other k q → val a.1 ≤ q
theorem lsK_inv {n : PNet} {s : PSt} {i : Nat} {other : Int} {nl : Nat} (hs : StNum nl s) (hd : okQ (flo n i).d = true) (hdn : 0 ≤ (flo n i).d.n) : ∀ k, k ≤ (flo n i).ls.length → LsI n s i other k (lsK n s i other k)
  | 0, _ => by
    have e : lsK n s i other 0 = ((flo n i).d, (flo n i).b) := rfl
    rw [e]
    refine ⟨hd, hdn, fun hb q hq => ?_, fun hb => ⟨Or.inl ⟨hb, rfl⟩, fun q hq => ?_⟩⟩
    · rcases hq with ⟨h1, _⟩ | ⟨j, x, hj, _⟩
      · dsimp only at hb; rw [hb] at h1; cases h1
      · omega
    · rcases hq with ⟨_, h2⟩ | ⟨j, x, hj, _⟩
      · rw [h2]; exact Rat.le_refl
      · omega
  | k + 1, hk => by
    obtain ⟨x, hx⟩ := get_some (show k < (flo n i).ls.length by omega)
    have ih := lsK_inv hs hd hdn k (by omega) (other := other)
    rw [lsK_next hx]
    obtain ⟨a, ha⟩ : ∃ a, a = lsK n s i other k := ⟨_, rfl⟩
    rw [← ha] at ih ⊢
    unfold lsS
    by_cases h1 : x = other ∨ s.op.getD x.toNat false = true
    · rw [if_pos h1]
      have hn : ∀ q, BndK n s i other (k + 1) q ↔ BndK n s i other k q := fun q => by
        rw [BndK_next hx]
        constructor
        · rintro (h | ⟨h2, h3, _⟩)
          · exact h
          · rcases h1 with h1 | h1
            · exact absurd h1 h2
            · rw [h1] at h3; cases h3
        · exact Or.inl
      exact ⟨ih.ok, ih.nn, fun hb q hq => ih.no hb q ((hn q).1 hq), fun hb => ⟨(hn _).2 (ih.yes hb).1, fun q hq => (ih.yes hb).2 q ((hn q).1 hq)⟩⟩
    · rw [if_neg h1]
      have hxo : x ≠ other := fun e => h1 (Or.inl e)
      have hop : s.op.getD x.toNat false = false := by
        cases h : s.op.getD x.toNat false with
        | false => rfl
        | true => exact absurd (Or.inr h) h1
      have hok := hs.ok.getD x.toNat
      have hcv := cmpQ_val hok ih.ok
      by_cases h2 : a.2 = false ∨ cmpQ (s.sh.getD x.toNat rq0) a.1 < 0
      · rw [if_pos h2]
        refine ⟨hok, hs.nn' _, (fun hb => by cases hb), fun _ => ⟨(BndK_next hx).2 (Or.inr ⟨hxo, hop, rfl⟩), fun q hq => ?_⟩⟩
        rcases (BndK_next hx).1 hq with h3 | ⟨_, _, h3⟩
        · rcases h2 with h2 | h2
          · exact absurd h3 (ih.no h2 q)
          · by_cases hb : a.2 = true
            · have := (ih.yes hb).2 q h3
              have := hcv.1.1 h2
              dsimp only
              grind
            · exact absurd h3 (ih.no (by simpa using hb) q)
        · rw [h3]; exact Rat.le_refl
      · rw [if_neg h2]
        have hb : a.2 = true := by
          cases h : a.2 with
          | true => rfl
          | false => exact absurd (Or.inl h) h2
        have hle : val a.1 ≤ val (s.sh.getD x.toNat rq0) := Rat.not_lt.1 fun hh => h2 (Or.inr (hcv.1.2 hh))
        refine ⟨ih.ok, ih.nn, (fun hb2 => by rw [hb] at hb2; cases hb2), fun _ => ⟨(BndK_next hx).2 (Or.inl (ih.yes hb).1), fun q hq => ?_⟩⟩
        rcases (BndK_next hx).1 hq with h3 | ⟨_, _, h3⟩
        · exact (ih.yes hb).2 q h3
        · rw [h3]; exact hle
theorem val_n0 {r : Rq} (h : r.n = 0) : val r = 0 := by
  unfold val
  rw [h]
  exact Rat.zero_mkRat _
/-- What least answers is the least bound. -/
theorem lsF_lim {n : PNet} {s : PSt} {i l : Nat} {other : Int} (hl : LinksOk n) (hs : StNum n.caps.length s) (hi : i < n.flows.length) (hd : okQ (flo n i).d = true) (hdn : 0 ≤ (flo n i).d.n) (ho : ∀ l' : Nat, l' < n.caps.length → ((l' : Int) = other ↔ l' = l)) :
    okQ (lsF n s i other).1 = true ∧ 0 ≤ (lsF n s i other).1.n ∧ LimP (anet n) (shO s) i l (if (lsF n s i other).2 then some (val (lsF n s i other).1) else none) := by
  have h := lsK_inv (other := other) hs hd hdn _ (Nat.le_refl _)
  obtain ⟨a, ha⟩ : ∃ a, a = lsK n s i other (flo n i).ls.length := ⟨_, rfl⟩
  have e1 : lsF n s i other = (if a.1.n = 0 then ⟨0, 1⟩ else a.1, a.2) := by unfold lsF; rw [← ha]
  rw [← ha] at h
  obtain ⟨hp, hm⟩ := flo_mem hi
  have hB : ∀ q, Bnd (anet n) (shO s) i l q ↔ BndK n s i other (flo n i).ls.length q := by
    intro q
    constructor
    · rintro (hd | ⟨l', h1, h2, h3, h4⟩)
      · exact Or.inl hd
      · have h3' : usesL n.flows i l' = true := h3
        rw [uses_of hp] at h3'
        obtain ⟨j, hj⟩ := List.getElem?_of_mem (List.contains_iff_mem.1 h3')
        obtain ⟨h5, h6⟩ := shO_some.1 h4
        refine Or.inr ⟨j, (l' : Int), (List.getElem?_eq_some_iff.1 hj).1, hj, fun e => h2 ((ho l' h1).1 e), ?_, ?_⟩
        · rw [Int.toNat_natCast]; exact h5
        · rw [Int.toNat_natCast]; exact h6
    · rintro (hd | ⟨j, x, h1, h2, h3, h4, h5⟩)
      · exact Or.inl hd
      · obtain ⟨h6, h7⟩ := hl.rg _ hm x (List.mem_of_getElem? h2)
        obtain ⟨l', rfl⟩ : ∃ l' : Nat, x = l' := ⟨x.toNat, by omega⟩
        rw [Int.toNat_natCast] at h4 h5
        refine Or.inr ⟨l', by show l' < n.caps.length; omega, fun e => h3 ((ho l' (by omega)).2 e), ?_, shO_some.2 ⟨h4, h5⟩⟩
        show usesL n.flows i l' = true
        rw [uses_of hp]
        exact List.contains_iff_mem.2 (List.mem_of_getElem? h2)
  have hv : val (if a.1.n = 0 then (⟨0, 1⟩ : Rq) else a.1) = val a.1 := by
    by_cases h0 : a.1.n = 0
    · rw [if_pos h0, val_n0 h0]; exact val_n0 rfl
    · rw [if_neg h0]
  rw [e1]
  dsimp only
  refine ⟨?_, ?_, ?_⟩
  · by_cases h0 : a.1.n = 0
    · rw [if_pos h0]; rfl
    · rw [if_neg h0]; exact h.ok
  · by_cases h0 : a.1.n = 0
    · rw [if_pos h0]; decide
    · rw [if_neg h0]; exact h.nn
  · rw [hv]
    cases hb : a.2 with
    | false => exact fun q hq => h.no hb q ((hB q).1 hq)
    | true => exact ⟨(hB _).2 (h.yes hb).1, fun q hq => (h.yes hb).2 q ((hB q).1 hq)⟩
/-- The limits of a link's flows, and how many have none. -/
def limK (n : PNet) (s : PSt) (l : Nat) : Nat → List Rq
  | 0 => []
  | k + 1 => if usesL n.flows k l && (lsF n s k (l : Int)).2 then limK n s l k ++ [(lsF n s k (l : Int)).1] else limK n s l k
def freK (n : PNet) (s : PSt) (l : Nat) : Nat → Nat
  | 0 => 0
  | k + 1 => if usesL n.flows k l && !(lsF n s k (l : Int)).2 then freK n s l k + 1 else freK n s l k
theorem limK_succ (n : PNet) (s : PSt) (l k : Nat) : limK n s l (k + 1) = if usesL n.flows k l && (lsF n s k (l : Int)).2 then limK n s l k ++ [(lsF n s k (l : Int)).1] else limK n s l k := rfl
theorem freK_succ (n : PNet) (s : PSt) (l k : Nat) : freK n s l (k + 1) = if usesL n.flows k l && !(lsF n s k (l : Int)).2 then freK n s l k + 1 else freK n s l k := rfl
theorem lim_fre_le (n : PNet) (s : PSt) (l : Nat) : ∀ k, (limK n s l k).length + freK n s l k ≤ k
  | 0 => Nat.le_refl _
  | k + 1 => by
    have := lim_fre_le n s l k
    rw [limK_succ, freK_succ]
    cases usesL n.flows k l <;> cases (lsF n s k (l : Int)).2 <;> simp <;> omega
theorem limK_all {n : PNet} {s : PSt} {l : Nat} {P : Rq → Prop} : ∀ k, (∀ i, i < k → P (lsF n s i (l : Int)).1) → ∀ x ∈ limK n s l k, P x
  | 0, _ => fun x hx => by cases hx
  | k + 1, h => by
    intro x hx
    rw [limK_succ] at hx
    split at hx
    · rw [List.mem_append] at hx
      rcases hx with hx | hx
      · exact limK_all k (fun i hi => h i (by omega)) x hx
      · rw [List.mem_singleton] at hx
        rw [hx]; exact h k (by omega)
    · exact limK_all k (fun i hi => h i (by omega)) x hx
def limO (n : PNet) (s : PSt) (l i : Nat) : Option Rat := if (lsF n s i (l : Int)).2 then some (val (lsF n s i (l : Int)).1) else none
theorem limK_sum {n : PNet} {s : PSt} {l : Nat} {v : Rat} : ∀ k, sumL (fun x => mn (some (val x)) v) (limK n s l k) + (freK n s l k : Rat) * v = sumTo (onl (anet n) l (fun i => mn (limO n s l i) v)) k
  | 0 => by
    show (0 : Rat) + ((0 : Nat) : Rat) * v = 0
    have : ((0 : Nat) : Rat) = 0 := rfl
    rw [this, Rat.zero_mul, Rat.add_zero]
  | k + 1 => by
    have ih := limK_sum (n := n) (s := s) (l := l) (v := v) k
    rw [sumTo, ← ih, limK_succ, freK_succ]
    unfold onl
    have hu : (anet n).us k l = usesL n.flows k l := rfl
    rw [hu]
    dsimp only
    unfold limO
    cases h1 : usesL n.flows k l with
    | false => simp [Rat.add_zero]
    | true =>
      cases h2 : (lsF n s k (l : Int)).2 with
      | true =>
        simp only [Bool.and_self, Bool.and_false, Bool.not_true, if_true, Bool.false_eq_true, if_false]
        rw [sumL_append]
        have : sumL (fun x => mn (some (val x)) v) [(lsF n s k (l : Int)).1] = mn (some (val (lsF n s k (l : Int)).1)) v := by
          show _ + (0 : Rat) = _
          rw [Rat.add_zero]
        rw [this]
        grind
      | false =>
        simp only [Bool.and_false, Bool.false_eq_true, if_false, Bool.not_false, Bool.and_true, if_true]
        rw [Rat.natCast_add, mn_none]
        have : ((1 : Nat) : Rat) = 1 := rfl
        rw [this, Rat.add_mul, Rat.one_mul]
        grind
theorem freK_pos {n : PNet} {s : PSt} {l : Nat} : ∀ k, 0 < freK n s l k → ∃ i, i < k ∧ usesL n.flows i l = true ∧ (lsF n s i (l : Int)).2 = false
  | 0, h => by cases h
  | k + 1, h => by
    rw [freK_succ] at h
    split at h
    · rename_i hc
      rw [Bool.and_eq_true, Bool.not_eq_true'] at hc
      exact ⟨k, by omega, hc.1, hc.2⟩
    · obtain ⟨i, hi, h1⟩ := freK_pos k h
      exact ⟨i, by omega, h1⟩
theorem freK_zero {n : PNet} {s : PSt} {l : Nat} : ∀ k, freK n s l k = 0 → ∀ i, i < k → usesL n.flows i l = true → (lsF n s i (l : Int)).2 = true
  | 0, _ => fun i hi => by omega
  | k + 1, h => by
    intro i hi hu
    rw [freK_succ] at h
    split at h
    · omega
    · rename_i hc
      by_cases e : i = k
      · subst e
        rw [hu, Bool.true_and, Bool.not_eq_true'] at hc
        cases h2 : (lsF n s i (l : Int)).2 with
        | true => rfl
        | false => exact absurd h2 hc
      · exact freK_zero k h i (by omega) hu
theorem limK_mem {n : PNet} {s : PSt} {l : Nat} {x : Rq} : ∀ k, x ∈ limK n s l k → ∃ i, i < k ∧ usesL n.flows i l = true ∧ (lsF n s i (l : Int)).2 = true ∧ (lsF n s i (l : Int)).1 = x
  | 0, h => by cases h
  | k + 1, h => by
    rw [limK_succ] at h
    split at h
    · rename_i hc
      rw [Bool.and_eq_true] at hc
      rw [List.mem_append] at h
      rcases h with h | h
      · obtain ⟨i, hi, h1⟩ := limK_mem k h
        exact ⟨i, by omega, h1⟩
      · rw [List.mem_singleton] at h
        exact ⟨k, by omega, hc.1, hc.2, h.symm⟩
    · obtain ⟨i, hi, h1⟩ := limK_mem k h
      exact ⟨i, by omega, h1⟩
theorem limK_nil {n : PNet} {s : PSt} {l : Nat} : ∀ k, limK n s l k = [] → freK n s l k = 0 → ∀ i, i < k → usesL n.flows i l = false
  | 0, _, _ => fun i hi => by omega
  | k + 1, h1, h2 => by
    intro i hi
    cases hu : usesL n.flows i l with
    | false => rfl
    | true =>
      exfalso
      rw [limK_succ] at h1
      rw [freK_succ] at h2
      by_cases e : i = k
      · subst e
        rw [hu] at h1 h2
        cases h3 : (lsF n s i (l : Int)).2 with
        | true => rw [h3] at h1; simp at h1
        | false => rw [h3] at h2; simp at h2
      · have a1 : limK n s l k = [] := by
          split at h1
          · simp at h1
          · exact h1
        have a2 : freK n s l k = 0 := by
          split at h2
          · omega
          · exact h2
        have := limK_nil k a1 a2 i (by omega)
        rw [hu] at this
        cases this
/-- What a round answers for a link. -/
def LnkR (n : PNet) (s : PSt) (l : Nat) (o : Option Rat) : Prop := ∃ lim, (∀ i, i < n.flows.length → usesL n.flows i l = true → LimP (anet n) (shO s) i l (lim i)) ∧ LvlA (anet n) l lim o
theorem link_some {n : PNet} {s : PSt} {l : Nat} {v : Rat} (hlim : ∀ i, i < n.flows.length → LimP (anet n) (shO s) i l (limO n s l i)) (h : LevelOk (val (n.caps.getD l rq0)) (limK n s l n.flows.length) (freK n s l n.flows.length) v) : LnkR n s l (some v) := by
  refine ⟨limO n s l, fun i hi _ => hlim i hi, h.1, ?_, ?_⟩
  · have := h.2.1
    rw [limK_sum] at this
    exact this
  · rcases h.2.2 with h1 | ⟨x, h1, h2⟩ | ⟨h1, h2, h3⟩
    · obtain ⟨i, hi, hu, hf⟩ := freK_pos _ h1
      refine Or.inl ⟨i, hi, hu, Or.inl ?_⟩
      unfold limO
      rw [hf]
      rfl
    · obtain ⟨i, hi, hu, hf, he⟩ := limK_mem _ h1
      refine Or.inl ⟨i, hi, hu, Or.inr ⟨val x, ?_, h2⟩⟩
      unfold limO
      rw [hf, he]
      rfl
    · exact Or.inr ⟨h3, fun i hi => limK_nil _ h1 h2 i hi⟩
theorem limK_sum0 {n : PNet} {s : PSt} {l : Nat} : ∀ k, freK n s l k = 0 → sumL val (limK n s l k) = sumTo (onl (anet n) l (fun i => (limO n s l i).getD 0)) k
  | 0, _ => rfl
  | k + 1, h => by
    have hf : freK n s l k = 0 := by
      rw [freK_succ] at h
      split at h
      · omega
      · exact h
    have ih := limK_sum0 k hf
    have hz := freK_zero (k + 1) h k (by omega)
    rw [sumTo, ← ih, limK_succ]
    unfold onl
    have hu : (anet n).us k l = usesL n.flows k l := rfl
    rw [hu]
    dsimp only
    unfold limO
    cases h1 : usesL n.flows k l with
    | false => simp [Rat.add_zero]
    | true =>
      rw [hz h1]
      simp only [Bool.and_self, if_true]
      rw [sumL_append]
      have : sumL val [(lsF n s k (l : Int)).1] = val (lsF n s k (l : Int)).1 := by
        show _ + (0 : Rat) = _
        rw [Rat.add_zero]
      rw [this]
      rfl
theorem link_none {n : PNet} {s : PSt} {l : Nat} (hlim : ∀ i, i < n.flows.length → LimP (anet n) (shO s) i l (limO n s l i)) (h : LevelNo (val (n.caps.getD l rq0)) (limK n s l n.flows.length) (freK n s l n.flows.length)) : LnkR n s l none := by
  refine ⟨limO n s l, fun i hi _ => hlim i hi, fun i hi hu => ?_, ?_⟩
  · refine ⟨val (lsF n s i (l : Int)).1, ?_⟩
    unfold limO
    rw [freK_zero _ h.1 i hi hu]
    rfl
  · have := h.2
    rw [limK_sum0 _ h.1] at this
    exact this
end Go.Proofs.Ytjalegdfofogcaa
