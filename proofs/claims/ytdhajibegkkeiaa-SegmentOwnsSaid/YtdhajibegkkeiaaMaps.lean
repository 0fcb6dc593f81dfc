/- A map of the call's own, said key by key with the elements as they lie: made, kept, looked up, stored into, counted. No program in sight. -/
import Derived.Test.YtdhajibegkkeiaaKit
import Derived.Maps.OwnOps
import Derived.Maps.OwnSet
import Derived.Maps.Views
namespace Go.Proofs.Ytdhajibegkkeiaa
set_option linter.unusedVariables false
set_option linter.unusedSimpArgs false
open Go.RowKit Go.Maps
theorem Blk.grown {w w' : World} {g : Nat} {t : TypeId} {cs : Array Value} {row : Option Nat} (h : Blk w g t cs) (hb : w.grownBy w' row) (hg : some g ≠ row) : Blk w' g t cs := (hb.block g h.lt hg).trans h
theorem Blk.ne_ {w : World} {g g' : Nat} {t t' : TypeId} {cs cs' : Array Value} (h : Blk w g t cs) (h' : Blk w g' t' cs') (hne : t ≠ t') : g ≠ g' := by
  rintro rfl
  unfold Blk at h h'
  rw [h] at h'
  injection h' with h'
  injection h' with _ ht
  exact hne ht
/-- Every value reads as itself. -/
def rawR (v : Value) : Option (DataW Value × List MemPlace) := some (.held v, [])
/-- Block b is a map of s entries; at the key x stands f x. -/
def MapAt (P : Program) (k : TypeId) (w : World) (b s : Nat) (f : Lit → Option Value) : Prop :=
  ∃ D, w.ownsMap P k rawR b s D ∧ Tidy D ∧ size D = s ∧ ∀ x, WideAt.IsKeyLit x → has D x = (f x).isSome ∧ ∀ z, D.atKey x (.held z) = .held ((f x).getD z)
theorem owns_size {P : Program} {k : TypeId} {w : World} {b n : Nat} {D : DataW Value} (h : w.ownsMap P k rawR b n D) : w.ownsMap P k rawR b (size D) D := by
  obtain ⟨es, c, hb, F, hs, hD⟩ := h
  refine ⟨es, c, hb, F, ?_, hD⟩
  rw [hD]
  show es.size ≤ ((es.toList.map (WideElems.rg P k rawR)).foldr DataW.insert []).length
  rw [length_sorted]; simp
section
variable {P : Program} {k : TypeId} {w w' : World} {b s : Nat} {f : Lit → Option Value}
theorem MapAt.made (w : World) (P : Program) (k : TypeId) : MapAt P k (w.alloc (.map #[] 0)) w.heap.size 0 (fun _ => none) :=
  ⟨.map [], World.ownsMap_made _ _ _ _, tidy_empty, rfl, fun x _ => ⟨rfl, fun z => rfl⟩⟩
theorem MapAt.lt (h : MapAt P k w b s f) : b < w.heap.size := h.elim fun _ h => h.1.lt
theorem MapAt.ne (h : MapAt P k w b s f) {g : Nat} {t : TypeId} {cs : Array Value} (hb : Blk w g t cs) : g ≠ b := by
  rintro rfl
  obtain ⟨D, ⟨es, c, h1, h2⟩, h3⟩ := h
  unfold Blk at hb
  rw [hb] at h1
  cases h1
theorem MapAt.kept {row : Option Nat} (h : MapAt P k w b s f) (hg : w.grownBy w' row) (hne : some b ≠ row) : MapAt P k w' b s f :=
  h.elim fun D h => ⟨D, h.1.kept hg hne, h.2⟩
theorem MapAt.of_block (h : MapAt P k w b s f) (hb : w'.heap[b]? = w.heap[b]?) : MapAt P k w' b s f := by
  obtain ⟨D, ⟨es, c, h1, h2⟩, h3⟩ := h
  exact ⟨D, ⟨es, c, hb.trans h1, h2⟩, h3⟩
theorem MapAt.alloc (h : MapAt P k w b s f) (o : Obj) : MapAt P k (w.alloc o) b s f := h.elim fun D h => ⟨D, h.1.alloc o, h.2⟩
theorem MapAt.drewN (h : MapAt P k w b s f) (n : Nat) : MapAt P k (w.drewN n) b s f := h
theorem MapAt.drew (h : MapAt P k w b s f) : MapAt P k w.drew b s f := h
theorem MapAt.far (h : MapAt P k w b s f) {p : Addr} (hp : b ≠ p.block) (u : Value) : MapAt P k (w.setCell p u) b s f := h.of_block (Below.heap_setCell w p u b hp)
theorem MapAt.below {B : Nat} (h : MapAt P k w b s f) (hb : Below B w w') (hg : b < B) : MapAt P k w' b s f := h.of_block (hb.block b hg)
theorem MapAt.new_ (h : MapAt P k w b s f) (hb : Below w.heap.size w w') : MapAt P k w' b s f := h.below hb h.lt
theorem MapAt.only {S : Nat → Prop} (h : MapAt P k w b s f) (hk : OnlyP S w w') (hne : ¬ S b) : MapAt P k w' b s f := h.of_block (hk.block b h.lt hne)
theorem MapAt.cast {s' : Nat} {f' : Lit → Option Value} (h : MapAt P k w b s f) (hs : s = s') (hf : ∀ x, WideAt.IsKeyLit x → f x = f' x) : MapAt P k w b s' f' := by
  obtain ⟨D, h1, h2, h3, h4⟩ := h
  subst hs
  exact ⟨D, h1, h2, h3, fun x hx => by rw [← hf x hx]; exact h4 x hx⟩
end
section
variable {P : Program} {w : World} {ops : Array Oper} {rest : List Oper} {o : Oper} {a : Act} {Q : Exit → Act → World → Prop}
/-- m[k] without ok. -/
theorem wpList_look (hg : o.guard = none) (m x : Operand) (t : TypeId) (hop : o.op = Op.lookup t m x false)
    (k e : TypeId) (K : Keyed P k) (ht : P.underlying t = some (.map k e)) {z : Value} (hz : (zeroValue e).run P w = .ok z w) (b s : Nat) (f : Lit → Option Value)
    (hm : a.eval m = .map (some b)) (hown : MapAt P k w b s f) (key : Value) (kl : Lit) (hx : a.eval x = key) (hkey : keyOf P k key = some kl)
    (hK : wpList P ops Q rest (a.put o.dst ((f kl).getD z)) w) :
    wpList P ops Q (o :: rest) a w := by
  refine wpList_plain hg fun K' hK' => ?_
  obtain ⟨D, h1, h2, h3, h4⟩ := hown
  obtain ⟨v, ps, hrun, hv⟩ := h1.lookup K ht hz (zd := .held z) (zp := []) rfl hkey
  rw [(h4 kl (K.key hkey)).2 z] at hv
  obtain ⟨rfl⟩ : v = (f kl).getD z := by simp [rawR] at hv; exact hv.1
  unfold Oper.wp
  simp [execOp, hop, hm, hx, hrun, Result.andThen]
  exact hK' _ _ hK
/-- v, ok := m[k]. -/
theorem wpList_lookOk (hg : o.guard = none) (m x : Operand) (t : TypeId) (hop : o.op = Op.lookup t m x true)
    (k e : TypeId) (K : Keyed P k) (ht : P.underlying t = some (.map k e)) {z : Value} (hz : (zeroValue e).run P w = .ok z w) (b s : Nat) (f : Lit → Option Value)
    (hm : a.eval m = .map (some b)) (hown : MapAt P k w b s f) (key : Value) (kl : Lit) (hx : a.eval x = key) (hkey : keyOf P k key = some kl)
    (hK : wpList P ops Q rest (a.put o.dst (.tuple #[(f kl).getD z, .bool (f kl).isSome])) w) :
    wpList P ops Q (o :: rest) a w := by
  obtain ⟨D, h1, h2, h3, h4⟩ := hown
  refine wpList_lookup_own_ok w hg m x t hop k e K ht rawR hz (.held z) [] rfl b s D hm h1 key kl hx hkey fun v ps hv => ?_
  rw [(h4 kl (K.key hkey)).2 z] at hv
  obtain ⟨rfl⟩ : v = (f kl).getD z := by simp [rawR] at hv; exact hv.1
  rw [(h4 kl (K.key hkey)).1]
  exact hK
/-- m[k] = v. -/
theorem wpList_mapSet (hg : o.guard = none) (m x v : Operand) (t : TypeId) (hop : o.op = Op.mapUpdate t m x v)
    (k e : TypeId) (K : Keyed P k) (ht : P.underlying t = some (.map k e)) (b s : Nat) (f : Lit → Option Value)
    (hm : a.eval m = .map (some b)) (hown : MapAt P k w b s f) (hn : s < maxLen) (key val : Value) (kl : Lit) (hx : a.eval x = key) (hv : a.eval v = val) (hkey : keyOf P k key = some kl)
    (hK : ∀ w', MapAt P k w' b (if (f kl).isSome then s else s + 1) (fun y => if y.sameKey kl = true then some val else f y) → w.grownBy w' (some b) → wpList P ops Q rest (a.put o.dst undef) w') :
    wpList P ops Q (o :: rest) a w := by
  obtain ⟨D, h1, h2, h3, h4⟩ := hown
  refine wpList_mapUpdate_own w hg m x v t hop k e K ht rawR b s D hm h1 hn key val kl hx hv hkey (.held val) [] rfl fun w' hown' hgrow => hK w' ?_ hgrow
  have hkl := K.key hkey
  have hsz := size_put (k := kl) h2 (.held val)
  rw [(h4 kl hkl).1, h3] at hsz
  refine ⟨D.put kl (.held val), by rw [← hsz]; exact owns_size hown', World.ownsMap.tidy hown' K, hsz, fun y hy => ?_⟩
  by_cases hyk : y = kl
  · subst hyk
    simp only [WideAt.sameKey_self hkl, if_true]
    exact ⟨by rw [has_put_same h2.isMap hkl]; rfl, fun z => by rw [atKey_put_same h2.isMap hkl]; rfl⟩
  · simp only [sameKey_ne hyk, Bool.false_eq_true, if_false]
    exact ⟨by rw [has_put_other hyk]; exact (h4 y hy).1, fun z => by rw [atKey_put_other hyk]; exact (h4 y hy).2 z⟩
/-- len(m). -/
theorem wpList_mapLen (hg : o.guard = none) (m : Operand) (t : TypeId) (hop : o.op = Op.call { callee := Callee.builtin Builtin.len, args := #[m], argTypes := #[t] })
    (k e : TypeId) (ht : P.underlying t = some (.map k e)) (b s : Nat) (f : Lit → Option Value) (hm : a.eval m = .map (some b)) (hown : MapAt P k w b s f)
    (hK : wpList P ops Q rest (a.put o.dst (.int .i64 s)) w) :
    wpList P ops Q (o :: rest) a w := by
  obtain ⟨D, h1, h2, h3, h4⟩ := hown
  exact wpList_len_own w hg m t hop k e ht rawR b s D hm h1 (by rw [h3]; exact hK)
end
/-- The same at keys of the kind int. -/
def intF (F : Int → Option Value) (x : Lit) : Option Value := match x with | .int .i64 z => F z | _ => none
def MapI (P : Program) (k : TypeId) (w : World) (b s : Nat) (F : Int → Option Value) : Prop := MapAt P k w b s (intF F)
section
variable {P : Program} {w : World} {ops : Array Oper} {rest : List Oper} {o : Oper} {a : Act} {Q : Exit → Act → World → Prop}
theorem MapI.made (w : World) (P : Program) (k : TypeId) : MapI P k (w.alloc (.map #[] 0)) w.heap.size 0 (fun _ => none) :=
  (MapAt.made w P k).cast rfl fun x _ => by unfold intF; split <;> rfl
theorem MapI.cast {k : TypeId} {b s s' : Nat} {F F' : Int → Option Value} (h : MapI P k w b s F) (hs : s = s') (hf : ∀ x, F x = F' x) : MapI P k w b s' F' :=
  MapAt.cast h hs fun x _ => by unfold intF; split <;> first | exact hf _ | rfl
theorem wpList_lookI (hg : o.guard = none) (m x : Operand) (t : TypeId) (hop : o.op = Op.lookup t m x false)
    (k e : TypeId) (hk : P.underlying k = some (.int .i64)) (ht : P.underlying t = some (.map k e)) {z : Value} (hz : (zeroValue e).run P w = .ok z w) (b s : Nat) (F : Int → Option Value)
    (hm : a.eval m = .map (some b)) (hown : MapI P k w b s F) (key : Int) (hx : a.eval x = .int .i64 key) (hwf : (Lit.int .i64 key).wf = true)
    (hK : wpList P ops Q rest (a.put o.dst ((F key).getD z)) w) :
    wpList P ops Q (o :: rest) a w :=
  wpList_look hg m x t hop k e (int_keyed hk) ht hz b s (intF F) hm hown _ _ hx (keyOf_int_mk hk hwf) hK
theorem wpList_lookOkI (hg : o.guard = none) (m x : Operand) (t : TypeId) (hop : o.op = Op.lookup t m x true)
    (k e : TypeId) (hk : P.underlying k = some (.int .i64)) (ht : P.underlying t = some (.map k e)) {z : Value} (hz : (zeroValue e).run P w = .ok z w) (b s : Nat) (F : Int → Option Value)
    (hm : a.eval m = .map (some b)) (hown : MapI P k w b s F) (key : Int) (hx : a.eval x = .int .i64 key) (hwf : (Lit.int .i64 key).wf = true)
    (hK : wpList P ops Q rest (a.put o.dst (.tuple #[(F key).getD z, .bool (F key).isSome])) w) :
    wpList P ops Q (o :: rest) a w :=
  wpList_lookOk hg m x t hop k e (int_keyed hk) ht hz b s (intF F) hm hown _ _ hx (keyOf_int_mk hk hwf) hK
theorem wpList_setI (hg : o.guard = none) (m x v : Operand) (t : TypeId) (hop : o.op = Op.mapUpdate t m x v)
    (k e : TypeId) (hk : P.underlying k = some (.int .i64)) (ht : P.underlying t = some (.map k e)) (b s : Nat) (F : Int → Option Value)
    (hm : a.eval m = .map (some b)) (hown : MapI P k w b s F) (hn : s < maxLen) (key : Int) (val : Value) (hx : a.eval x = .int .i64 key) (hv : a.eval v = val) (hwf : (Lit.int .i64 key).wf = true)
    (hK : ∀ w', MapI P k w' b (if (F key).isSome = true then s else s + 1) (fun y => if y = key then some val else F y) → w.grownBy w' (some b) → wpList P ops Q rest (a.put o.dst undef) w') :
    wpList P ops Q (o :: rest) a w :=
  wpList_mapSet hg m x v t hop k e (int_keyed hk) ht b s (intF F) hm hown hn _ _ _ hx hv (keyOf_int_mk hk hwf) fun w' h hg' =>
    hK w' (MapAt.cast h rfl fun y _ => by
      unfold intF
      cases y with
      | int q n => cases q <;> simp [Lit.sameKey]
      | _ => simp [Lit.sameKey]) hg'
end
end Go.Proofs.Ytdhajibegkkeiaa
