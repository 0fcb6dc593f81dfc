/- A drawn region by an invariant over what has come up: one obligation for each operation, whatever the order. No program in sight. -/
import Derived.Test.YtjalegdfofogcaaWords
import Derived.Deep.RegionHeld3
namespace Go.Proofs.Ytjalegdfofogcaa
set_option linter.unusedVariables false
section
variable {P : Program} {md : Region.Mode} {ops : Array Oper} {Q : Exit → Act → World → Prop}
def unl (L : Array Bool) : Nat := (L.toList.filter fun b => !b).length
theorem unl_set {l : List Bool} {i : Nat} (h : l[i]? = some false) : ((l.set i true).filter fun b => !b).length + 1 = (l.filter fun b => !b).length := by
  induction l generalizing i with
  | nil => simp at h
  | cons b l ih =>
    cases i with
    | zero => simp at h; subst h; simp
    | succ i =>
      simp at h
      have := ih h
      cases b <;> simp <;> omega
theorem ready_at {i : Nat} {L : Array Bool} (h : i ∈ Region.ready md ops L) : L.toList[i]? = some false := by
  have h1 := (mem_ready.1 h).1
  rcases Nat.lt_or_ge i L.size with h' | h'
  · simp [h'] at h1 ⊢; exact h1
  · simp [Array.getElem?_eq_none h'] at h1
/-- Number i waits for number d. -/
def awaits (md : Region.Mode) (ops : Array Oper) (i d : Nat) : Bool := ((ops[i]?).map fun o => o.after.any fun e => Region.binds md e && e.on == d).getD false
theorem ready_dep {i d : Nat} {L : Array Bool} (hr : i ∈ Region.ready md ops L) (hw : awaits md ops i d = true) : L.getD d false = true := by
  obtain ⟨-, o, ho, hall⟩ := mem_ready.1 hr
  unfold awaits at hw
  rw [ho] at hw
  simp only [Option.map_some, Option.getD_some, Array.any_eq_true] at hw
  obtain ⟨j, hj, h⟩ := hw
  simp only [Bool.and_eq_true, beq_iff_eq] at h
  have h2 := hall o.after[j] (Array.getElem_mem hj) h.1
  rw [h.2] at h2
  exact h2
/-- Each waits for such with lesser numbers alone. -/
def downward (md : Region.Mode) (ops : Array Oper) : Bool := (List.range ops.size).all fun i => ((ops[i]?).map fun o => o.after.all fun e => !Region.binds md e || decide (e.on < i)).getD true
theorem all_listed (hd : downward md ops = true) {L : Array Bool} (hs : L.size = ops.size) (hr : Region.ready md ops L = []) : ∀ i, i < ops.size → L.getD i false = true := by
  intro i
  induction i using Nat.strongRecOn with
  | _ i ih =>
    intro hi
    refine Classical.byContradiction fun hn => ?_
    have hmem : i ∈ Region.ready md ops L := by
      refine mem_ready.2 ⟨?_, ops[i], Array.getElem?_eq_getElem hi, fun e he hb => ?_⟩
      · have h' : i < L.size := by omega
        simp [h'] at hn ⊢; exact hn
      · have h1 := List.all_eq_true.1 hd i (List.mem_range.2 hi)
        rw [Array.getElem?_eq_getElem hi, Option.map_some, Option.getD_some, Array.all_eq_true'] at h1
        have h2 := h1 e he
        rw [hb] at h2
        simp only [Bool.not_true, Bool.false_or, decide_eq_true_eq] at h2
        exact ih e.on h2 (by omega)
    rw [hr] at hmem
    cases hmem
theorem wpAny_inv {Inv : Array Bool → Act → World → Prop} (hd : downward md ops = true)
    (H : ∀ L a w i, Inv L a w → i ∈ Region.ready md ops L → wpOp P ops Q i (fun a' w' => Inv (L.setIfInBounds i true) a' w') a w)
    (E : ∀ L a w, Inv L a w → (∀ i, i < ops.size → L.getD i false = true) → Q .normal a w) :
    ∀ (n : Nat) (L : Array Bool) (a : Act) (w : World), L.size = ops.size → unl L ≤ n → Inv L a w → wpAny P md ops Q n L a w := by
  intro n
  induction n with
  | zero =>
    intro L a w hs hn hI
    have hr : Region.ready md ops L = [] := by
      rw [List.eq_nil_iff_forall_not_mem]
      intro i hi
      have := unl_set (ready_at hi)
      unfold unl at hn
      omega
    exact ⟨hr, E L a w hI (all_listed hd hs hr)⟩
  | succ n ih =>
    intro L a w hs hn hI
    refine ⟨fun hr => E L a w hI (all_listed hd hs hr), fun i hi => ?_⟩
    refine wpOp_mono (fun a' w' h => ih _ a' w' (by simpa using hs) ?_ h) (H L a w i hI hi)
    have := unl_set (ready_at hi)
    unfold unl at hn ⊢
    rw [Array.toList_setIfInBounds]
    omega
theorem unl_none (n : Nat) : unl (Array.replicate n false) ≤ n := by
  unfold unl
  simp
/-- THE LAW: the region, whatever order is drawn. -/
theorem wp_region_inv {id : Nat} {a : Act} {w : World} (Inv : Array Bool → Act → World → Prop) (hm : P.follows .mixedOrders = true) (hd : downward .any ops = true)
    (h0 : Inv (Array.replicate ops.size false) a w.drew)
    (H : ∀ L a w i, Inv L a w → i ∈ Region.ready .any ops L → wpOp P ops Q i (fun a' w' => Inv (L.setIfInBounds i true) a' w') a w)
    (E : ∀ L a w, Inv L a w → (∀ i, i < ops.size → L.getD i false = true) → Q .normal a w) : (Code.region id ops true).wp P Q a w :=
  wp_region_any hm (wpAny_inv hd H E _ _ _ _ (by simp) (unl_none _) h0)
structure Wall (p : Prop) : Prop where
  out : p
/-- One operation. -/
theorem inv_op {K0 : Act → World → Prop} {i : Nat} {o : Oper} {a : Act} {w : World} (ho : ops[i]? = some o)
    (h : ∀ K : Act → World → Prop, Wall (∀ a w, K0 a w → K a w) → if Region.wanted o (yielded ops a.tmps) = true then Oper.wp P o a w K Q else K (a.put o.dst undef) w) :
    wpOp P ops Q i K0 a w :=
  wpOp_step ho fun K hK => h K ⟨hK⟩
theorem ready_lt {i : Nat} {L : Array Bool} (h : i ∈ Region.ready md ops L) : i < ops.size := by
  obtain ⟨-, o, ho, -⟩ := mem_ready.1 h
  exact (Array.getElem?_eq_some_iff.1 ho).1
theorem ready_not {i : Nat} {L : Array Bool} (h : i ∈ Region.ready md ops L) : L.getD i false = false := by
  have h1 := (mem_ready.1 h).1
  rcases Nat.lt_or_ge i L.size with h' | h'
  · simp [h'] at h1 ⊢; exact h1
  · simp [Array.getElem?_eq_none h'] at h1
theorem with_act {C : Code} {a : Act} {w : World} (h : ∀ a0, a0 = a → C.wp P Q a0 w) : C.wp P Q a w := h a rfl
theorem none_yet {n i : Nat} {p : Prop} (h : (Array.replicate n false).getD i false = true) : p := by
  rw [Array.getD_eq_getD_getElem?, Array.getElem?_replicate] at h
  split at h <;> simp at h
theorem set_self {L : Array Bool} {i : Nat} (h : i ∈ Region.ready md ops L) : (L.setIfInBounds i true).getD i false = true := by
  have h1 := (mem_ready.1 h).1
  rcases Nat.lt_or_ge i L.size with h' | h'
  · simp [h']
  · simp [Array.getElem?_eq_none h'] at h1
theorem set_other {L : Array Bool} {i j : Nat} (hne : j ≠ i) : (L.setIfInBounds i true).getD j false = L.getD j false := by
  simp only [Array.getD_eq_getD_getElem?]
  rw [Array.getElem?_setIfInBounds_ne (Ne.symm hne)]
end
end Go.Proofs.Ytjalegdfofogcaa
