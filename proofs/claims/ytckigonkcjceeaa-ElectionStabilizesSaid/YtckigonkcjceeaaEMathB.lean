/- Run with twice as many rounds as nodes; stable votes agree; a cable over which no port leads can go. -/
import Derived.Test.YtckigonkcjceeaaEMath
import Derived.Test.YtckigonkcjceeaaEGreat
namespace Go.Proofs.Ytckigonkcjceeaa
set_option linter.unusedVariables false
set_option linter.unusedSimpArgs false
open Go.RowKit
/-- What Run returns at 2 n rounds and valid arguments: stable votes. -/
def LateR (w : World) (C : List Cb) (up : List Bool) (n : Nat) (e : Ending) (w' : World) : Prop :=
  ∃ (A : Option Addr) (kap r : Nat) (R : List Vt), e = .returned (.tuple #[.slice A n kap, .int .i64 (r : Nat), .int .i64 0]) ∧ r ≤ 2 * n ∧ R.length = n ∧ DistOk n R ∧ roundP C up R = R ∧ RowsAt w' w'.heap.size 3 vcell A R ∧ n ≤ kap ∧ kap ≤ maxLen ∧ Below w.heap.size w w'
theorem Run_late (N : List Nd) (C : List Cb) (An Ac Au Av : Option Addr) (kn kc ku kv n : Nat) (most : Int) (up : List Bool) (votes : List Vt) (w : World) (h : ArgsAt w N C An Ac Au Av kn kc ku kv up votes) (hf : faultE N C up votes = 0) (hl : votes.length = n) (hm : most = 2 * (n : Int)) :
    Calls Try.prog 16 #[.agg #[.slice An N.length kn, .slice Ac C.length kc], .slice Au up.length ku, .slice Av n kv, .int .i64 most] w (LateR w C up n) := by
  subst hl
  subst hm
  obtain ⟨h1, h2, h3, h4⟩ := faultE_zero.1 hf
  have h5 := (valid_spec h1).1
  have hN : Net (C.zip up) votes.length := by rw [h3]; exact net_of h1
  rw [← h3] at h4
  have hst := stable_late hN h4
  refine (Run_ok N C An Ac Au Av kn kc ku kv up votes (2 * votes.length) w h hf (by omega)).mono ?_
  rintro e w' ⟨A, kap, r, err, rfl, a1, a2, a3, a4, a5, a6, a7⟩
  rcases a3 with ⟨b1, rfl⟩ | ⟨b1, rfl, -⟩
  · exact ⟨A, kap, r, roundsP C up votes r, rfl, a1, roundsP_len C up votes r, roundsP_ok h4 r, b1, a4, a5, a6, a7⟩
  · exact absurd hst b1
section
variable {C : List Cb} {up : List Bool} {V W : List Vt} {n : Nat}
theorem core_of (hN : Net (C.zip up) n) (hl : V.length = n) (hd : DistOk n V) (h : roundP C up V = V) {x : Int} (x0 : 0 ≤ x) (x1 : x < n) :
    ∃ m d, Least (C.zip up) n m x ∧ Dst (C.zip up) n m x d ∧ (voteAt V x).root = m ∧ (voteAt V x).dist = d ∧ ((voteAt V x).port = -1 ↔ x = m) := by
  subst hl
  obtain ⟨m, hm⟩ := least_of hN x0 x1
  obtain ⟨k, hk⟩ := hm.1
  obtain ⟨d, hd', -⟩ := Dst.of hk
  have hs : StableAt C up V 0 := h
  exact ⟨m, d, hm, hd', stable_is hN hd hs hm hd'⟩
theorem stable_same (hN : Net (C.zip up) n) (hl : V.length = n) (hw : W.length = n) (hd : DistOk n V) (hd' : DistOk n W) (h : roundP C up V = V) (h' : roundP C up W = W) : W = V := by
  rw [← h, ← h']
  refine round_core (hw.trans hl.symm) (fun i i0 i1 => ?_) (by rw [hw]; exact hN)
  rw [hw] at i1
  obtain ⟨m, d, a1, a2, a3, a4, -⟩ := core_of hN hl hd h i0 i1
  obtain ⟨m', d', b1, b2, b3, b4, -⟩ := core_of hN hw hd' h' i0 i1
  obtain rfl := Least.uniq a1 b1
  obtain rfl := Dst.uniq a2 b2
  exact ⟨b3.trans a3.symm, b4.trans a4.symm⟩
/-- What the vote of a node in stable votes is: its own, or what it hears of a neighbour. -/
theorem stable_at (hN : Net (C.zip up) n) (hl : V.length = n) (h : roundP C up V = V) {x : Int} (x0 : 0 ≤ x) (x1 : x < n) : voteAt V x = selfV x ∨ ∃ u p, Link (C.zip up) u x p ∧ voteAt V x = heardOf V u p := by
  subst hl
  have hst : voteAt V x = roundAt V.length V (C.zip up) x := by
    conv => lhs; rw [← h]
    rw [voteAt_round x0 x1]
  rcases (roundAt_spec V.length V x (C.zip up) hN.ne).1 with e | ⟨u, p, hl, hlt2, e⟩
  · exact .inl (hst.trans e)
  · exact .inr ⟨u, p, hl, hst.trans e⟩
theorem mem_zip_get {α β : Type} {l : List α} {m : List β} {x : α × β} (h : x ∈ l.zip m) : ∃ i : Nat, l[i]? = some x.1 ∧ m[i]? = some x.2 := by
  obtain ⟨i, hi⟩ := List.mem_iff_getElem?.1 h
  rw [List.getElem?_zip_eq_some] at hi
  exact ⟨i, hi⟩
theorem zip_mem_get {α β : Type} {l : List α} {m : List β} {x : α} {y : β} {i : Nat} (h1 : l[i]? = some x) (h2 : m[i]? = some y) : (x, y) ∈ l.zip m :=
  List.mem_iff_getElem?.2 ⟨i, List.getElem?_zip_eq_some.2 ⟨h1, h2⟩⟩
theorem less_mem {c : Nat} {y : Cb} (h : (y, true) ∈ C.zip (up.set c false)) : (y, true) ∈ C.zip up := by
  obtain ⟨i, h1, h2⟩ := mem_zip_get h
  simp only at h1 h2
  rcases Nat.lt_or_ge c up.length with hc | hc
  · by_cases e : c = i
    · subst e
      rw [List.getElem?_set_self hc] at h2
      cases h2
    · rw [List.getElem?_set_ne e] at h2
      exact zip_mem_get h1 h2
  · rw [List.set_eq_of_length_le hc] at h2
    exact zip_mem_get h1 h2
theorem mem_less {c : Nat} {x y : Cb} (hx : C[c]? = some x) (h : (y, true) ∈ C.zip up) : y = x ∨ (y, true) ∈ C.zip (up.set c false) := by
  obtain ⟨i, h1, h2⟩ := mem_zip_get h
  simp only at h1 h2
  by_cases e : c = i
  · subst e
    rw [hx] at h1
    injection h1 with h1
    exact .inl h1.symm
  · refine .inr (zip_mem_get h1 ?_)
    rw [List.getElem?_set_ne e]; exact h2
theorem Link.less {c : Nat} {u v p : Int} (h : Link (C.zip (up.set c false)) u v p) : Link (C.zip up) u v p := by
  obtain ⟨y, hy, h⟩ := h; exact ⟨y, less_mem hy, h⟩
theorem Wk.less {c k : Nat} {u v : Int} (h : Wk (C.zip (up.set c false)) n k u v) : Wk (C.zip up) n k u v := by
  induction h with
  | refl u h1 h2 => exact Wk.refl u h1 h2
  | step hw hl ih => exact Wk.step ih hl.less
theorem net_less {c : Nat} (hN : Net (C.zip up) n) (hv : ∀ x ∈ C, CabOk n x) : Net (C.zip (up.set c false)) n := by
  have hc : ∀ x ∈ C.zip (up.set c false), CabOk n x.1 := fun x hx => hv x.1 (List.of_mem_zip hx).1
  exact ⟨fun x hx => (hc x hx).ne, fun x hx => (hc x hx).a, fun x hx => (hc x hx).b, fun x hx => (hc x hx).ap, fun x hx => (hc x hx).bp⟩
theorem cut_walk {c : Nat} {x : Cb} (hN : Net (C.zip up) n) (hl : V.length = n) (hd : DistOk n V) (h : roundP C up V = V) (hx : C[c]? = some x) (ha : (voteAt V x.a).port ≠ x.ap) (hb : (voteAt V x.b).port ≠ x.bp) (d : Nat) :
    ∀ m y : Int, Least (C.zip up) n m y → Dst (C.zip up) n m y d → Wk (C.zip (up.set c false)) n d m y := by
  induction d with
  | zero =>
    intro m y hL hD
    have hb := Wk.bd hN hD.1
    cases hD.1 with
    | refl => exact Wk.refl _ hb.1.1 hb.1.2
  | succ d ih =>
    intro m y hL hD
    have hbd := (Wk.bd hN hD.1).2
    have hst : StableAt C up V 0 := h
    have hL' := hL
    have hD' := hD
    have hi := stable_is (V := V) (by rw [hl]; exact hN) (by rw [hl]; exact hd) hst (by rw [hl]; exact hL) (by rw [hl]; exact hD)
    simp only [roundsP] at hi
    obtain ⟨i1, i2, i3⟩ := hi
    rcases stable_at hN hl h hbd.1 hbd.2 with e | ⟨u, p, hlk, e⟩
    · rw [e] at i2
      simp only [selfV] at i2
      omega
    · have hul := (hN.link hlk).1
      obtain ⟨m', d', b1, b2, b3, b4, -⟩ := core_of hN hl hd h hul.1 hul.2
      have ev := e
      rw [e] at i1 i2
      simp only [heardOf] at i1 i2
      obtain rfl : m' = m := by omega
      obtain rfl : d' = d := by omega
      have hw := ih m' u b1 b2
      refine Wk.step hw (p := p) ?_
      obtain ⟨y', hy, hcase⟩ := hlk
      rcases mem_less hx hy with rfl | hy2
      · exfalso
        rcases hcase with ⟨c1, c2, c3⟩ | ⟨c1, c2, c3⟩
        · apply hb; rw [c2, ev]; exact c3
        · apply ha; rw [c2, ev]; exact c3
      · exact ⟨y', hy2, hcase⟩
theorem cut_keeps {c : Nat} {x : Cb} (hN : Net (C.zip up) n) (hN' : Net (C.zip (up.set c false)) n) (hl : V.length = n) (hw : W.length = n) (hd : DistOk n V) (hd' : DistOk n W) (h : roundP C up V = V) (h' : roundP C (up.set c false) W = W) (hx : C[c]? = some x) (ha : (voteAt V x.a).port ≠ x.ap) (hb : (voteAt V x.b).port ≠ x.bp) {y : Int} (y0 : 0 ≤ y) (y1 : y < n) :
    (voteAt W y).root = (voteAt V y).root ∧ (voteAt W y).dist = (voteAt V y).dist := by
  obtain ⟨m, d, a1, a2, a3, a4, -⟩ := core_of hN hl hd h y0 y1
  obtain ⟨m', d', b1, b2, b3, b4, -⟩ := core_of hN' hw hd' h' y0 y1
  have hk := cut_walk hN hl hd h hx ha hb d m y a1 a2
  have hm : m' = m := by
    obtain ⟨⟨k, hk'⟩, b1'⟩ := b1
    have e1 := b1' _ _ hk
    have e2 := a1.2 _ _ hk'.less
    omega
  subst hm
  have e1 := b2.2 _ hk
  have e2 := a2.2 _ b2.1.less
  exact ⟨b3.trans a3.symm, by rw [b4, a4]; omega⟩
end
theorem start_fault {N : List Nd} {C : List Cb} {up : List Bool} (hv : validE N C = 0) (hu : up.length = C.length) : faultE N C up (startP N.length) = 0 := by
  refine faultE_zero.2 ⟨hv, hu, startP_len _, fun v hm => ?_⟩
  unfold startP at hm
  obtain ⟨i, hi, rfl⟩ := List.mem_map.1 hm
  have := List.mem_range.1 hi
  simp only [selfV]
  omega
theorem vote_get {V : List Vt} {k : Nat} {v : Vt} (h : V[k]? = some v) : voteAt V (k : Int) = v := by
  unfold voteAt
  rw [List.getD_eq_getElem?_getD, Int.toNat_natCast, h]; rfl
end Go.Proofs.Ytckigonkcjceeaa
