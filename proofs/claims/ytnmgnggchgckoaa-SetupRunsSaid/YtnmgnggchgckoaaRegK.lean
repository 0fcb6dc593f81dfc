/- A drawn region whose last operation writes what the others read: the condition on the world is asked behind every operation but that one. No program in sight. -/
import Derived.Test.YtnmgnggchgckoaaWords
import Derived.Deep.RegionHeld3
namespace Go.Proofs.Ytnmgnggchgckoaa
set_option linter.unusedVariables false
section
variable {P : Program} {md : Region.Mode} {ops : Array Oper} {Q : Exit → Act → World → Prop} {S : World → Prop} {k : Nat}
/-- Whatever order is picked; S holds behind every operation but number k. -/
def wpAnyK (P : Program) (md : Region.Mode) (ops : Array Oper) (Q : Exit → Act → World → Prop) (S : World → Prop) (k : Nat) : Nat → Array Bool → Act → World → Prop
  | 0, L, a, w => Region.ready md ops L = [] ∧ Q .normal a w
  | n + 1, L, a, w => (Region.ready md ops L = [] → Q .normal a w) ∧ ∀ i ∈ Region.ready md ops L, wpOp P ops Q i (fun a' w' => (i = k ∨ S w') ∧ wpAnyK P md ops Q S k n (L.setIfInBounds i true) a' w') a w
theorem wpAnyK_any : ∀ (n : Nat) (L : Array Bool) (a : Act) (w : World), wpAnyK P md ops Q S k n L a w → wpAny P md ops Q n L a w
  | 0, _, _, _, h => h
  | n + 1, _, _, _, h => ⟨h.1, fun i hi => wpOp_mono (fun a' w' h' => wpAnyK_any n _ a' w' h'.2) (h.2 i hi)⟩
/-- Number k waits for number i. -/
def waits (md : Region.Mode) (ops : Array Oper) (k i : Nat) : Bool := ((ops[k]?).map fun o => o.after.any fun e => Region.binds md e && e.on == i).getD false
theorem waits_not_ready {i : Nat} {L : Array Bool} (hw : waits md ops k i = true) (hi : L.getD i false = false) : k ∉ Region.ready md ops L := by
  intro hk
  obtain ⟨-, o, ho, hall⟩ := mem_ready.1 hk
  unfold waits at hw
  rw [ho] at hw
  simp only [Option.map_some, Option.getD_some, Array.any_eq_true] at hw
  obtain ⟨j, hj, h⟩ := hw
  simp only [Bool.and_eq_true, beq_iff_eq] at h
  have h2 := hall o.after[j] (Array.getElem_mem hj) h.1
  rw [h.2, hi] at h2
  cases h2
theorem unlisted {i : Nat} {L : Array Bool} (h : L.getD i true = false) : L.getD i false = false := by
  rcases Nat.lt_or_ge i L.size with h' | h'
  · simp [h'] at h ⊢; exact h
  · simp [Array.getElem?_eq_none h'] at h
theorem wpAnyK_first {i : Nat} {oi : Oper} {v : Value} (hi : ops[i]? = some oi) (hs : Region.noSelect ops = true) (hw : waits md ops k i = true) (hQ : ∀ c a w, Q (.panic c) (a.put oi.dst v) w → Q (.panic c) a w) :
    ∀ (n : Nat) (L : Array Bool) (a : Act) (w : World),
      (∀ j oj, ops[j]? = some oj → j ≠ i → L.getD j true = false → (∀ e ∈ oj.after, Region.binds md e = true → e.on ≠ i) → oi.apart ops oj = true) →
      i ∈ Region.ready md ops L → YieldsIf P ops S oi v a → S w → wpAnyK P md ops Q S k n (L.setIfInBounds i true) (a.put oi.dst v) w → wpAnyK P md ops Q S k (n + 1) L a w := by
  have hsel := Region.noSelect_spec hs
  intro n
  induction n with
  | zero =>
    intro L a w _ hr hy hS H
    refine ⟨fun h => absurd (h ▸ hr) (by simp), fun j hj => ?_⟩
    rcases Decidable.em (j = i) with rfl | hne
    · exact hy.wpOp hi hS ⟨.inr hS, H⟩
    · exact absurd (H.1 ▸ ready_mono hj hne) (by simp)
  | succ n ih =>
    intro L a w hap hr hy hS H
    refine ⟨fun h => absurd (h ▸ hr) (by simp), fun j hj => ?_⟩
    rcases Decidable.em (j = i) with rfl | hne
    · exact hy.wpOp hi hS ⟨.inr hS, H⟩
    · have hL := unlisted (mem_ready.1 hr).1
      have hjk : j ≠ k := fun e => waits_not_ready hw hL (e ▸ hj)
      obtain ⟨hj0, oj, hoj, hafter⟩ := mem_ready.1 hj
      have hnot : ∀ e ∈ oj.after, Region.binds md e = true → e.on ≠ i := fun e he hb heq => by
        have := hafter e he hb
        rw [heq, hL] at this
        cases this
      have step := wpOp_putIf hoj (hap j oj hoj hne hj0 hnot) (fun cs b => hsel i oi cs b hi) (fun cs b => hsel j oj cs b hoj) hQ hy (H.2 j (ready_mono hj hne))
      refine wpOp_mono (fun a' w' h => ?_) step
      obtain ⟨hy', hS', hrest⟩ := h
      have hS2 : S w' := hS'.resolve_left hjk
      refine ⟨.inr hS2, ih (L.setIfInBounds j true) a' w' (fun m om hm hmi hm0 hmn => ?_) (ready_mono hr (Ne.symm hne)) hy' hS2 ?_⟩
      · refine hap m om hm hmi ?_ hmn
        rcases Decidable.em (j = m) with rfl | hjm
        · exact hj0
        · rwa [getD_set_ne true hjm] at hm0
      · rw [Array.setIfInBounds_comm _ _ hne]
        exact hrest
theorem wpAnyK_take {i : Nat} {oi : Oper} {v : Value} {n : Nat} {L : Array Bool} {a : Act} {w : World} (hi : ops[i]? = some oi)
    (hs : Region.noSelect ops = true) (hw : waits md ops k i = true) (hf : Region.free md ops L i = true) (hr : (Region.ready md ops L).contains i = true)
    (hQ : ∀ c a w, Q (.panic c) (a.put oi.dst v) w → Q (.panic c) a w) (hy : YieldsIf P ops S oi v a) (hS : S w)
    (h : wpAnyK P md ops Q S k n (L.setIfInBounds i true) (a.put oi.dst v) w) : wpAnyK P md ops Q S k (n + 1) L a w :=
  wpAnyK_first hi hs hw hQ n L a w (Region.free_spec hi hf) (by simpa using hr) hy hS h
theorem wpAnyK_done {L : Array Bool} {a : Act} {w : World} (hr : Region.ready md ops L = []) (h : Q .normal a w) : ∀ n, wpAnyK P md ops Q S k n L a w
  | 0 => ⟨hr, h⟩
  | _ + 1 => ⟨fun _ => h, by rw [hr]; simp⟩
/-- The only one that may come up is number i, not the last. -/
theorem wpAnyK_one {i : Nat} {o : Oper} {n : Nat} {L : Array Bool} {a : Act} {w : World} (hr : Region.ready md ops L = [i]) (ho : ops[i]? = some o)
    (h : ∀ K' : Act → World → Prop, Shut (∀ a w, S w → (S w → wpAnyK P md ops Q S k n (L.setIfInBounds i true) a w) → K' a w) → if Region.wanted o (yielded ops a.tmps) = true then Oper.wp P o a w K' Q else K' (a.put o.dst undef) w) :
    wpAnyK P md ops Q S k (n + 1) L a w :=
  ⟨fun h0 => absurd (hr ▸ h0) (by simp), hr ▸ fun j hj => by
    obtain rfl := List.mem_singleton.1 hj
    exact wpOp_step ho fun K' hK => h K' (fun a w hS hW => hK a w ⟨.inr hS, hW hS⟩)⟩
/-- The last. -/
theorem wpAnyK_last {o : Oper} {n : Nat} {L : Array Bool} {a : Act} {w : World} (hr : Region.ready md ops L = [k]) (ho : ops[k]? = some o)
    (h : ∀ K' : Act → World → Prop, Shut (∀ a w, wpAnyK P md ops Q S k n (L.setIfInBounds k true) a w → K' a w) → if Region.wanted o (yielded ops a.tmps) = true then Oper.wp P o a w K' Q else K' (a.put o.dst undef) w) :
    wpAnyK P md ops Q S k (n + 1) L a w :=
  ⟨fun h0 => absurd (hr ▸ h0) (by simp), hr ▸ fun j hj => by
    obtain rfl := List.mem_singleton.1 hj
    exact wpOp_step ho fun K' hK => h K' (fun a w hW => hK a w ⟨.inl rfl, hW⟩)⟩
theorem wp_region_K {id : Nat} {a : Act} {w : World} (hm : P.follows .mixedOrders = true) (hS : S w.drew)
    (h : S w.drew → wpAnyK P .any ops Q S k ops.size (Array.replicate ops.size false) a w.drew) : (Code.region id ops true).wp P Q a w :=
  wp_region_any hm (wpAnyK_any _ _ _ _ (h hS))
end
end Go.Proofs.Ytnmgnggchgckoaa
