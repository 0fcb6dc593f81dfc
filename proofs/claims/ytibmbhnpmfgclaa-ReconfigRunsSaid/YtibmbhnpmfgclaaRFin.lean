/- Reconfig: all nodes are near each other; and every change is finished. No program in sight. -/
import Derived.Test.YtibmbhnpmfgclaaRRecv
namespace Go.Proofs.Ytibmbhnpmfgclaa
set_option linter.unusedVariables false
set_option linter.unusedSimpArgs false
section
variable {P : List Int} {ns : List Sn}
theorem near0 (h : Inv P ns) (ht : Tree P) (h0 : (nd ns 0).ph = 0) : ∀ k v, v < k → v < P.length → (nd ns v).ph = 0 ∧ (nd ns v).ep = (nd ns 0).ep := by
  intro k
  induction k with
  | zero => intro v hv; omega
  | succ k ih =>
    intro v hv hn
    rcases Nat.eq_zero_or_pos v with e | e
    · subst e; exact ⟨h0, rfl⟩
    · obtain ⟨p, hp, hpe⟩ := ht.up v e hn
      obtain ⟨a, b⟩ := ih p (by omega) (by omega)
      have := (h.rel p v (mem_kids.2 ⟨hn, hpe⟩)).r0 a
      exact ⟨this.1, by omega⟩
theorem near1 (h : Inv P ns) (ht : Tree P) (h0 : (nd ns 0).ph = 1) : ∀ k v, v < k → v < P.length → (nd ns v).ph ≤ 2 ∧ (nd ns v).ep = (nd ns 0).ep := by
  intro k
  induction k with
  | zero => intro v hv; omega
  | succ k ih =>
    intro v hv hn
    rcases Nat.eq_zero_or_pos v with e | e
    · subst e; exact ⟨by omega, rfl⟩
    · obtain ⟨p, hp, hpe⟩ := ht.up v e hn
      obtain ⟨a, b⟩ := ih p (by omega) (by omega)
      have hr := h.rel p v (mem_kids.2 ⟨hn, hpe⟩)
      rcases (by omega : (nd ns p).ph = 0 ∨ (nd ns p).ph = 1 ∨ (nd ns p).ph = 2) with e | e | e
      · have := hr.r0 e; omega
      · have := hr.r1 e; omega
      · have := hr.r2 e; omega
theorem near3 (h : Inv P ns) (ht : Tree P) (h0 : (nd ns 0).ph = 3) : ∀ k v, v < k → v < P.length → ((nd ns v).ph = 2 ∧ (nd ns v).ep + 1 = (nd ns 0).ep) ∨ (((nd ns v).ph = 3 ∨ (nd ns v).ph = 0) ∧ (nd ns v).ep = (nd ns 0).ep) := by
  intro k
  induction k with
  | zero => intro v hv; omega
  | succ k ih =>
    intro v hv hn
    rcases Nat.eq_zero_or_pos v with e | e
    · subst e; exact .inr ⟨.inl h0, rfl⟩
    · obtain ⟨p, hp, hpe⟩ := ht.up v e hn
      have hr := h.rel p v (mem_kids.2 ⟨hn, hpe⟩)
      rcases ih p (by omega) (by omega) with ⟨a, b⟩ | ⟨a | a, b⟩
      · have := hr.r2 a; omega
      · have := (hr.r3 a).1; omega
      · have := hr.r0 a; omega
theorem root_ph (h : Inv P ns) (ht : Tree P) : (nd ns 0).ph = 0 ∨ (nd ns 0).ph = 1 ∨ (nd ns 0).ph = 3 := by
  have hw := h.wf 0 ht.pos
  have := hw.ph
  have := hw.c2 rfl
  omega
theorem near (h : Inv P ns) (ht : Tree P) {u v : Nat} (hu : u < P.length) (hv : v < P.length) : (nd ns u).ep ≤ (nd ns v).ep + 1 := by
  rcases root_ph h ht with e | e | e
  · have := near0 h ht e _ u (Nat.lt_succ_self u) hu; have := near0 h ht e _ v (Nat.lt_succ_self v) hv; omega
  · have := near1 h ht e _ u (Nat.lt_succ_self u) hu; have := near1 h ht e _ v (Nat.lt_succ_self v) hv; omega
  · have := near3 h ht e _ u (Nat.lt_succ_self u) hu; have := near3 h ht e _ v (Nat.lt_succ_self v) hv; omega
/-- At rest nothing that was sent changes anything. -/
theorem rest_recv (h : Inv P ns) (ht : Tree P) (h0 : (nd ns 0).ph = 0) (m : Mg) (hm : MOk P ns m) : (recvP P 0 ns m).1 = ns := by
  unfold recvP
  by_cases he : errP P m = 0
  · rw [if_pos he]
    obtain ⟨k1, k4, f0, f1, t0, t1, h13, h24⟩ := err_none he
    obtain ⟨_, _, hs⟩ := hm
    have ht0 := near0 h ht h0 _ m.to_.toNat (Nat.lt_succ_self _) (by omega)
    have hf0 := near0 h ht h0 _ m.frm.toNat (Nat.lt_succ_self _) (by omega)
    have hsf : stg (nd ns m.frm.toNat) = 4 * (nd ns m.frm.toNat).ep := by unfold stg; simp [hf0.1]
    unfold goP
    by_cases e1 : m.kind = 1
    · rw [if_pos e1]
      unfold recvPrepareP
      rw [if_neg (by omega)]
    rw [if_neg e1]
    by_cases e2 : m.kind = 2
    · rw [if_pos e2]
      unfold recvReadyP
      rw [if_neg (by omega), if_neg (by omega)]
    rw [if_neg e2]
    by_cases e3 : m.kind = 3
    · rw [if_pos e3]
      unfold recvCommitP
      rw [if_neg (by omega)]
      split <;> rfl
    rw [if_neg e3]
    unfold recvDoneP
    rw [if_neg (by omega)]
  · rw [if_neg he]
def recvL (P : List Int) (ns : List Sn) (l : List Mg) : List Sn := l.foldl (fun s x => (recvP P 0 s x).1) ns
def deliverP (P : List Int) (ns : List Sn) (m : Mg) : List Sn := recvL P (recvP P 0 ns m).1 (recvP P 0 ns m).2
def deliverL (P : List Int) (ns : List Sn) (l : List Mg) : List Sn := l.foldl (fun s x => deliverP P s x) ns
def drain1 (P : List Int) (ns : List Sn) (i : Nat) : List Sn := if (nd ns i).ph = 3 then (settleP P 0 (ns.set i { nd ns i with dr := true }) i).1 else ns
def drainL (P : List Int) (ns : List Sn) (l : List Nat) : List Sn := l.foldl (fun s x => drain1 P s x) ns
def roundP (P : List Int) (ns : List Sn) : List Sn := drainL P (deliverL P ns (repeatP P ns)) (List.range P.length)
/-- The root is within the change from e to e + 1, or has finished it. -/
def Win (e : Nat) (ns : List Sn) : Prop := ((nd ns 0).ph = 1 ∧ (nd ns 0).ep = e) ∨ (((nd ns 0).ph = 3 ∨ (nd ns 0).ph = 0) ∧ (nd ns 0).ep = e + 1)
structure Fore (P : List Int) (ns ns' : List Sn) : Prop where
  inv : Inv P ns'
  st : ∀ v, stg (nd ns v) ≤ stg (nd ns' v)
  up : ns' = ns ∨ Phi P ns P.length < Phi P ns' P.length
  win : ∀ e, Win e ns → Win e ns'
theorem Fore.refl (h : Inv P ns) : Fore P ns ns := ⟨h, fun _ => Int.le_refl _, .inl rfl, fun _ h => h⟩
theorem Fore.trans {a b c : List Sn} (h : Fore P a b) (k : Fore P b c) : Fore P a c := by
  refine ⟨k.inv, fun v => Int.le_trans (h.st v) (k.st v), ?_, fun e he => k.win e (h.win e he)⟩
  rcases h.up with e | e
  · subst e; exact k.up
  · rcases k.up with e2 | e2
    · subst e2; exact .inr e
    · exact .inr (by omega)
theorem recv_fore (h : Inv P ns) (ht : Tree P) (m : Mg) (hm : MOk P ns m) : Fore P ns (recvP P 0 ns m).1 := by
  have hg := recv_good h ht m hm
  refine ⟨hg.inv, hg.le.st, hg.up, fun e hw => ?_⟩
  have hrest := rest_recv h ht
  have hw' := hg.inv.wf 0 ht.pos
  have h1 := hg.le.st 0
  have h3 := hg.ev 0
  have h4 := hg.pv 0
  have h5 := hw'.c2 rfl
  have h6 := hg.le.ep1 0
  rcases stg_ph (h.wf 0 ht.pos).ph with ⟨a, b⟩ | ⟨a, b⟩ | ⟨a, b⟩ | ⟨a, b⟩
  · rw [hrest a m hm]; exact hw
  · rcases stg_ph hw'.ph with ⟨c, d⟩ | ⟨c, d⟩ | ⟨c, d⟩ | ⟨c, d⟩ <;> unfold Win at hw ⊢ <;> omega
  · unfold Win at hw; omega
  · rcases stg_ph hw'.ph with ⟨c, d⟩ | ⟨c, d⟩ | ⟨c, d⟩ | ⟨c, d⟩ <;> unfold Win at hw ⊢ <;> omega
theorem recvL_fore (h : Inv P ns) (ht : Tree P) (l : List Mg) (hl : ∀ m, m ∈ l → MOk P ns m) : Fore P ns (recvL P ns l) := by
  induction l generalizing ns with
  | nil => exact Fore.refl h
  | cons m l ih =>
    have h1 := recv_fore h ht m (hl m List.mem_cons_self)
    exact h1.trans (ih h1.inv fun x hx => (hl x (List.mem_cons_of_mem _ hx)).le h1.st)
theorem deliver_fore (h : Inv P ns) (ht : Tree P) (m : Mg) (hm : MOk P ns m) : Fore P ns (deliverP P ns m) := by
  have h1 := recv_fore h ht m hm
  exact h1.trans (recvL_fore h1.inv ht _ (recv_good h ht m hm).msg)
theorem deliverL_fore (h : Inv P ns) (ht : Tree P) (l : List Mg) (hl : ∀ m, m ∈ l → MOk P ns m) : Fore P ns (deliverL P ns l) := by
  induction l generalizing ns with
  | nil => exact Fore.refl h
  | cons m l ih =>
    have h1 := deliver_fore h ht m (hl m List.mem_cons_self)
    exact h1.trans (ih h1.inv fun x hx => (hl x (List.mem_cons_of_mem _ hx)).le h1.st)
theorem deliverL_up (h : Inv P ns) (ht : Tree P) (l : List Mg) (hl : ∀ m, m ∈ l → MOk P ns m) {m : Mg} (hm : m ∈ l) (hup : Phi P ns P.length < Phi P (deliverP P ns m) P.length) : Phi P ns P.length < Phi P (deliverL P ns l) P.length := by
  induction l generalizing ns with
  | nil => simp at hm
  | cons x l ih =>
    have h1 := deliver_fore h ht x (hl x List.mem_cons_self)
    have hl2 : ∀ m, m ∈ l → MOk P (deliverP P ns x) m := fun y hy => (hl y (List.mem_cons_of_mem _ hy)).le h1.st
    have h2 := deliverL_fore h1.inv ht l hl2
    show _ < Phi P (deliverL P (deliverP P ns x) l) P.length
    rcases h1.up with e | e
    · rcases List.mem_cons.1 hm with rfl | hm
      · rw [e] at hup; omega
      · rw [e] at hl2 ⊢
        exact ih h (fun m hm => hl m (List.mem_cons_of_mem _ hm)) hm hup
    · rcases h2.up with e2 | e2
      · rw [e2]; exact e
      · omega
theorem phi_dr (v : Nat) (x : Sn) (b : Bool) : phi P { x with dr := b } v = phi P x v := rfl
theorem drain1_fore (h : Inv P ns) (ht : Tree P) {i : Nat} (hi : i < P.length) : Inv P (drain1 P ns i) ∧ (∀ v, stg (nd ns v) ≤ stg (nd (drain1 P ns i) v)) ∧ Phi P ns P.length ≤ Phi P (drain1 P ns i) P.length ∧ (∀ e, Win e ns → Win e (drain1 P ns i)) ∧ (∀ v, v ≠ i → nd (drain1 P ns i) v = nd ns v) ∧
    ((nd ns i).ph = 3 → (nd ns i).an.length = (kids P i).length → Phi P ns P.length < Phi P (drain1 P ns i) P.length) ∧ ((nd ns 0).ph = 0 → (nd (drain1 P ns i) 0).ph = 0) := by
  have hil : i < ns.length := by rw [h.len]; exact hi
  unfold drain1
  by_cases e : (nd ns i).ph = 3
  · rw [if_pos e]
    have hg := drain_good h ht hi e
    refine ⟨hg.inv, hg.le.st, ?_, fun e' hw => ?_, hg.tr, fun _ hf => ?_, fun h0 => ?_⟩
    · rcases hg.up with ⟨e2, _⟩ | e2
      · rw [e2, Phi_set hil, if_pos hi, phi_dr]; omega
      · omega
    · by_cases e0 : i = 0
      · subst e0
        have := hg.ep
        have := hg.pv
        unfold Win at hw ⊢; omega
      · unfold Win at hw ⊢
        rw [hg.tr 0 (fun e => e0 e.symm)]; exact hw
    · rcases hg.up with ⟨_, e2⟩ | e2
      · exact absurd hf e2
      · exact e2
    · by_cases e0 : i = 0
      · subst e0; omega
      · rw [hg.tr 0 (fun e => e0 e.symm)]; exact h0
  · rw [if_neg e]
    exact ⟨h, fun _ => Int.le_refl _, Int.le_refl _, fun _ h => h, fun _ _ => rfl, fun h => absurd h e, fun h => h⟩
theorem drainL_fore (h : Inv P ns) (ht : Tree P) (l : List Nat) (hl : ∀ i, i ∈ l → i < P.length) : Inv P (drainL P ns l) ∧ (∀ v, stg (nd ns v) ≤ stg (nd (drainL P ns l) v)) ∧ Phi P ns P.length ≤ Phi P (drainL P ns l) P.length ∧ (∀ e, Win e ns → Win e (drainL P ns l)) ∧
    (∀ v, v ∈ l → (nd ns v).ph = 3 → (nd ns v).an.length = (kids P v).length → Phi P ns P.length < Phi P (drainL P ns l) P.length) ∧ ((nd ns 0).ph = 0 → (nd (drainL P ns l) 0).ph = 0) := by
  induction l generalizing ns with
  | nil => exact ⟨h, fun _ => Int.le_refl _, Int.le_refl _, fun _ h => h, fun v hv => by simp at hv, fun h => h⟩
  | cons i l ih =>
    obtain ⟨a1, a2, a3, a4, a5, a6, a7⟩ := drain1_fore h ht (hl i List.mem_cons_self)
    obtain ⟨b1, b2, b3, b4, b5, b6⟩ := ih a1 (fun j hj => hl j (List.mem_cons_of_mem _ hj))
    refine ⟨b1, fun v => Int.le_trans (a2 v) (b2 v), Int.le_trans a3 b3, fun e he => b4 e (a4 e he), fun v hv h3 hf => ?_, fun h0 => b6 (a7 h0)⟩
    show _ < Phi P (drainL P (drain1 P ns i) l) P.length
    by_cases e : v = i
    · subst e
      have := a6 h3 hf
      omega
    · rcases List.mem_cons.1 hv with e2 | hv
      · exact absurd e2 e
      · have := b5 v hv (by rw [a5 v e]; exact h3) (by rw [a5 v e]; exact hf)
        omega
theorem mem_repeat {m : Mg} {v : Nat} (hv : v < ns.length) (hm : m ∈ sendP P (nd ns v) v) : m ∈ repeatP P ns :=
  List.mem_flatMap.2 ⟨v, List.mem_range.2 hv, hm⟩
theorem send_ok {x : Sn} {v : Nat} {m : Mg} (hm : m ∈ sendP P x v) : m.frm = v ∧ 4 * (m.ep - 1) + m.kind ≤ stg x := by
  unfold sendP at hm
  split at hm
  · rename_i e
    obtain ⟨c, _, _, rfl⟩ := mem_down hm
    refine ⟨rfl, ?_⟩
    unfold stg; simp [e]; try omega
  · split at hm
    · rename_i e
      unfold riseP at hm
      simp only [List.mem_singleton] at hm
      subst hm
      refine ⟨rfl, ?_⟩
      unfold stg; simp [e]; try omega
    · split at hm
      · rename_i e
        obtain ⟨c, _, _, rfl⟩ := mem_down hm
        refine ⟨rfl, ?_⟩
        unfold stg; simp [e]; try omega
      · simp at hm
theorem repeat_ok (h : Inv P ns) (m : Mg) (hm : m ∈ repeatP P ns) : MOk P ns m := by
  obtain ⟨v, hv, hm⟩ := List.mem_flatMap.1 hm
  rw [List.mem_range, h.len] at hv
  obtain ⟨h1, h2⟩ := send_ok hm
  refine ⟨by rw [h1]; omega, by rw [h1]; omega, ?_⟩
  rw [h1]; simpa using h2
theorem repeat_rest (h : Inv P ns) (ht : Tree P) (h0 : (nd ns 0).ph = 0) : repeatP P ns = [] := by
  unfold repeatP
  rw [List.flatMap_eq_nil_iff]
  intro v hv
  rw [List.mem_range, h.len] at hv
  have := (near0 h ht h0 _ v (Nat.lt_succ_self v) hv).1
  unfold sendP
  rw [if_neg (by omega), if_neg (by omega), if_neg (by omega)]
theorem set_ne {v : Nat} (hv : v < ns.length) {x : Sn} (h : x.ph ≠ (nd ns v).ph ∨ x.an ≠ (nd ns v).an) : ns.set v x ≠ ns := fun e => by
  have h1 := nd_set hv x v
  rw [e, if_pos rfl] at h1
  rw [h1] at h
  simp at h
theorem addA_ne {l : List Nat} {k : Nat} (h : k ∉ l) : addA l k ≠ l := by
  unfold addA; rw [if_neg h]; intro e
  have := congrArg List.length e
  simp at this
theorem prepared_ne {y : Sn} {v r : Nat} (hv : v < ns.length) (h : (nd ns v).ph ≤ 1) : (preparedP P r (ns.set v y) v).1 ≠ ns := by
  unfold preparedP commitP
  split
  · rw [List.set_set]; exact set_ne hv (.inl (by simp; omega))
  · rw [List.set_set]; exact set_ne hv (.inl (by simp; omega))
theorem prepare_ne {v r : Nat} (hv : v < ns.length) (h : (nd ns v).ph = 0) : (prepareP P r ns v).1 ≠ ns := by
  unfold prepareP
  split
  · exact prepared_ne hv (by omega)
  · exact set_ne hv (.inl (by simp; omega))
theorem ready_ne {f t : Nat} {ep : Int} (ht : t < ns.length) (h1 : ep = (nd ns t).ep + 1) (h2 : (nd ns t).ph = 1) (h3 : f ∉ (nd ns t).an) : (recvReadyP P 0 ns f t ep).1 ≠ ns := by
  unfold recvReadyP answerP
  rw [if_pos ⟨h1, h2⟩]
  split
  · exact prepared_ne ht (by omega)
  · exact set_ne ht (.inr (addA_ne h3))
theorem done_ne {f t : Nat} {ep : Int} (ht : t < ns.length) (h1 : ep = (nd ns t).ep) (h2 : (nd ns t).ph = 3) (h3 : f ∉ (nd ns t).an) : (recvDoneP P 0 ns f t ep).1 ≠ ns := by
  unfold recvDoneP answerP settleP
  rw [if_pos ⟨h1, h2⟩]
  split
  · rw [List.set_set]; exact set_ne ht (.inl (by simp; omega))
  · exact set_ne ht (.inr (addA_ne h3))
theorem err_ok1 (ht : Tree P) {v i : Nat} (hi : i ∈ kids P v) (k ep : Int) (hk : k = 1 ∨ k = 3) : errP P ⟨k, v, i, ep⟩ = 0 := by
  obtain ⟨a, b, c⟩ := ht.par hi
  have := (mem_kids.1 hi).1
  unfold errP
  simp only [Int.toNat_natCast, b]
  rw [if_neg (by omega), if_neg (by omega), if_neg (by omega)]
theorem err_ok2 (ht : Tree P) {v i : Nat} (hi : i ∈ kids P v) (k ep : Int) (hk : k = 2 ∨ k = 4) : errP P ⟨k, i, v, ep⟩ = 0 := by
  obtain ⟨a, b, c⟩ := ht.par hi
  have := (mem_kids.1 hi).1
  unfold errP
  simp only [Int.toNat_natCast, b]
  rw [if_neg (by omega), if_neg (by omega), if_neg (by omega)]
theorem deliver_up (h : Inv P ns) (ht : Tree P) {m : Mg} (hm : MOk P ns m) (hne : (recvP P 0 ns m).1 ≠ ns) : Phi P ns P.length < Phi P (deliverP P ns m) P.length := by
  have h1 := recv_fore h ht m hm
  have h2 := recvL_fore h1.inv ht _ (recv_good h ht m hm).msg
  rcases h1.up with e | e
  · exact absurd e hne
  · show _ < Phi P (recvL P (recvP P 0 ns m).1 (recvP P 0 ns m).2) P.length
    rcases h2.up with e2 | e2
    · rw [e2]; exact e
    · omega
/-- As long as a node waits, something is to be done below it. -/
theorem to_do (h : Inv P ns) (ht : Tree P) : ∀ k v, P.length ≤ v + k → v < P.length → ((nd ns v).ph = 1 ∨ (nd ns v).ph = 3) →
    (∃ m, m ∈ repeatP P ns ∧ Phi P ns P.length < Phi P (deliverP P ns m) P.length) ∨ (∃ u, u < P.length ∧ (nd ns u).ph = 3 ∧ (nd ns u).an.length = (kids P u).length) := by
  intro k
  induction k with
  | zero => intro v h1 h2; omega
  | succ k ih =>
    intro v hk hv hph
    have hvl : v < ns.length := by rw [h.len]; exact hv
    have hw := h.wf v hv
    by_cases hfull : (nd ns v).an.length = (kids P v).length
    · rcases hph with e | e
      · exact absurd hfull (hw.c1 e)
      · exact .inr ⟨v, hv, e, hfull⟩
    obtain ⟨i, hi, hin⟩ : ∃ i, i ∈ kids P v ∧ i ∉ (nd ns v).an := by
      apply Classical.byContradiction
      intro hno
      have hall : ∀ i, i ∈ kids P v → i ∈ (nd ns v).an := fun i hi => Classical.byContradiction fun hn => hno ⟨i, hi, hn⟩
      have a := sub_len (kids_nodup P v) hall
      have b := sub_len hw.nd hw.sub
      omega
    have hil := (mem_kids.1 hi).1
    have hil' : i < ns.length := by rw [h.len]; exact hil
    have hlt := ht.lt hi
    have hpar := (ht.par hi).2.1
    have hr := h.rel v i hi
    rcases hph with e | e
    · have hc := hr.r1 e
      rcases (by omega : (nd ns i).ph = 0 ∨ (nd ns i).ph = 1 ∨ (nd ns i).ph = 2) with c | c | c
      · have hm : (⟨1, v, i, (nd ns v).ep + 1⟩ : Mg) ∈ repeatP P ns := mem_repeat hvl (by unfold sendP; rw [if_pos e]; exact down_mem hi hin)
        refine .inl ⟨_, hm, deliver_up h ht (repeat_ok h _ hm) ?_⟩
        unfold recvP
        rw [if_pos (err_ok1 ht hi _ _ (.inl rfl))]
        unfold goP
        rw [if_pos rfl]
        simp only [Int.toNat_natCast]
        unfold recvPrepareP
        rw [if_pos (by omega), if_pos c]
        exact prepare_ne hil' c
      · exact ih i (by omega) hil (.inl c)
      · have hm : (⟨2, i, v, (nd ns i).ep + 1⟩ : Mg) ∈ repeatP P ns := mem_repeat hil' (by unfold sendP riseP; rw [if_neg (by omega), if_pos c, hpar]; exact List.mem_singleton.2 rfl)
        refine .inl ⟨_, hm, deliver_up h ht (repeat_ok h _ hm) ?_⟩
        unfold recvP
        rw [if_pos (err_ok2 ht hi _ _ (.inl rfl))]
        unfold goP
        rw [if_neg (by simp), if_pos rfl]
        simp only [Int.toNat_natCast]
        exact ready_ne hvl (by omega) e hin
    · rcases (hr.r3 e).1 with ⟨c, d⟩ | ⟨c | c, d⟩
      · have hm : (⟨3, v, i, (nd ns v).ep⟩ : Mg) ∈ repeatP P ns := mem_repeat hvl (by unfold sendP; rw [if_neg (by omega), if_neg (by omega), if_pos e]; exact down_mem hi hin)
        refine .inl ⟨_, hm, deliver_up h ht (repeat_ok h _ hm) ?_⟩
        unfold recvP
        rw [if_pos (err_ok1 ht hi _ _ (.inr rfl))]
        unfold goP
        rw [if_neg (by simp), if_neg (by simp), if_pos rfl]
        simp only [Int.toNat_natCast]
        unfold recvCommitP
        rw [if_pos ⟨by omega, c⟩]
        unfold commitP
        exact set_ne hil' (.inl (by simp; omega))
      · exact ih i (by omega) hil (.inr c)
      · have hm : (⟨3, v, i, (nd ns v).ep⟩ : Mg) ∈ repeatP P ns := mem_repeat hvl (by unfold sendP; rw [if_neg (by omega), if_neg (by omega), if_pos e]; exact down_mem hi hin)
        refine .inl ⟨_, hm, ?_⟩
        have hrec : recvP P 0 ns ⟨3, v, i, (nd ns v).ep⟩ = (ns, [⟨4, i, v, (nd ns i).ep⟩]) := by
          unfold recvP
          rw [if_pos (err_ok1 ht hi _ _ (.inr rfl))]
          unfold goP
          rw [if_neg (by simp), if_neg (by simp), if_pos rfl]
          simp only [Int.toNat_natCast]
          unfold recvCommitP riseP
          rw [if_neg (by omega), if_pos ⟨by omega, c⟩, hpar]
        have hok := (recv_good h ht _ (repeat_ok h _ hm)).msg
        unfold deliverP
        rw [hrec] at hok ⊢
        have hok1 := hok ⟨4, i, v, (nd ns i).ep⟩ (List.mem_singleton.2 rfl)
        show _ < Phi P (recvP P 0 ns ⟨4, i, v, (nd ns i).ep⟩).1 P.length
        rcases (recv_good h ht _ hok1).up with e2 | e2
        · refine absurd e2 ?_
          unfold recvP
          rw [if_pos (err_ok2 ht hi _ _ (.inr rfl))]
          unfold goP
          rw [if_neg (by simp), if_neg (by simp), if_neg (by simp)]
          simp only [Int.toNat_natCast]
          exact done_ne hvl (by omega) e hin
        · exact e2
theorem round_fore (h : Inv P ns) (ht : Tree P) : Inv P (roundP P ns) ∧ (∀ e, Win e ns → Win e (roundP P ns)) ∧ ((nd ns 0).ph ≠ 0 → Phi P ns P.length < Phi P (roundP P ns) P.length) ∧ ((nd ns 0).ph = 0 → (nd (roundP P ns) 0).ph = 0) := by
  have h1 := deliverL_fore h ht (repeatP P ns) (repeat_ok h)
  obtain ⟨a1, a2, a3, a4, a5, a6⟩ := drainL_fore h1.inv ht (List.range P.length) (fun i hi => List.mem_range.1 hi)
  refine ⟨a1, fun e he => a4 e (h1.win e he), fun h0 => ?_, fun h0 => ?_⟩
  · show _ < Phi P (drainL P (deliverL P ns (repeatP P ns)) (List.range P.length)) P.length
    rcases to_do h ht P.length 0 (by omega) ht.pos (by have := root_ph h ht; omega) with ⟨m, hm, hup⟩ | ⟨u, hu, h3, hf⟩
    · have := deliverL_up h ht _ (repeat_ok h) hm hup
      omega
    · rcases h1.up with e | e
      · have := a5 u (List.mem_range.2 hu) (by rw [e]; exact h3) (by rw [e]; exact hf)
        rw [e] at this ⊢
        exact this
      · omega
  · refine a6 ?_
    rw [repeat_rest h ht h0]; exact h0
def roundsP (P : List Int) (ns : List Sn) : Nat → List Sn
  | 0 => ns
  | n + 1 => roundP P (roundsP P ns n)
/-- The sum of what every node goes through in one change. -/
def Tot (P : List Int) : Nat → Int
  | 0 => 0
  | n + 1 => Tot P n + (4 + 2 * ((kids P n).length : Int))
theorem kids_sum (P : List Int) (l : List Nat) (k : Nat) : ((l.filter fun i => P[i]? == some (k : Int)).length) + (l.filter fun i => decide (∃ v : Nat, v < k ∧ P[i]? = some (v : Int))).length = (l.filter fun i => decide (∃ v : Nat, v < k + 1 ∧ P[i]? = some (v : Int))).length := by
  induction l with
  | nil => rfl
  | cons a l ih =>
    by_cases h1 : P[a]? = some (k : Int)
    · have h2 : ¬ ∃ v : Nat, v < k ∧ P[a]? = some (v : Int) := by rintro ⟨v, hv, he⟩; rw [h1] at he; injection he with he; omega
      have h3 : ∃ v : Nat, v < k + 1 ∧ P[a]? = some (v : Int) := ⟨k, by omega, h1⟩
      rw [List.filter_cons_of_pos (by simp [h1]), List.filter_cons_of_neg (by simpa using h2), List.filter_cons_of_pos (by simpa using h3)]
      simp only [List.length_cons]; omega
    · by_cases h2 : ∃ v : Nat, v < k ∧ P[a]? = some (v : Int)
      · have h3 : ∃ v : Nat, v < k + 1 ∧ P[a]? = some (v : Int) := by obtain ⟨v, hv, he⟩ := h2; exact ⟨v, by omega, he⟩
        rw [List.filter_cons_of_neg (by simpa using h1), List.filter_cons_of_pos (by simpa using h2), List.filter_cons_of_pos (by simpa using h3)]
        simp only [List.length_cons]; omega
      · have h3 : ¬ ∃ v : Nat, v < k + 1 ∧ P[a]? = some (v : Int) := by
          rintro ⟨v, hv, he⟩
          by_cases e : v = k
          · subst e; exact h1 he
          · exact h2 ⟨v, by omega, he⟩
        rw [List.filter_cons_of_neg (by simpa using h1), List.filter_cons_of_neg (by simpa using h2), List.filter_cons_of_neg (by simpa using h3)]
        exact ih
theorem tot_eq (P : List Int) (k : Nat) : Tot P k = 4 * k + 2 * (((List.range P.length).filter fun i => decide (∃ v : Nat, v < k ∧ P[i]? = some (v : Int))).length : Int) := by
  induction k with
  | zero => rw [List.filter_eq_nil_iff.2 (by simp)]; simp [Tot]
  | succ k ih =>
    unfold Tot
    rw [ih]
    have := kids_sum P (List.range P.length) k
    unfold kids
    omega
theorem tot_le (P : List Int) : Tot P P.length ≤ 6 * P.length := by
  rw [tot_eq]
  have := List.length_filter_le (fun i => decide (∃ v : Nat, v < P.length ∧ P[i]? = some (v : Int))) (List.range P.length)
  rw [List.length_range] at this
  omega
theorem mul_le_ (a : Nat) (d : Int) : ((a + 1 : Nat) : Int) * d = (a : Int) * d + d := mul_succ_ a d
/-- Within a change the potential lies between what it was at rest and what it will be at rest. -/
theorem phi_win {P : List Int} {x : Sn} {v e : Nat} (ha : x.an.length ≤ (kids P v).length) (hx : (x.ph ≤ 2 ∧ x.ep = e) ∨ (x.ph = 2 ∧ x.ep + 1 = e + 1) ∨ ((x.ph = 3 ∨ x.ph = 0) ∧ x.ep = e + 1)) :
    (e : Int) * (4 + 2 * ((kids P v).length : Int)) ≤ phi P x v ∧ phi P x v ≤ (e : Int) * (4 + 2 * ((kids P v).length : Int)) + (4 + 2 * ((kids P v).length : Int)) := by
  unfold phi
  rcases (by omega : (x.ph ≤ 2 ∧ x.ep = e) ∨ ((x.ph = 3 ∨ x.ph = 0) ∧ x.ep = e + 1)) with ⟨a, b⟩ | ⟨a, b⟩
  · rw [b]
    generalize (e : Int) * _ = q
    rcases (by omega : x.ph = 0 ∨ x.ph = 1 ∨ x.ph = 2) with c | c | c <;> rw [c] <;> simp <;> omega
  · rw [b, mul_le_]
    generalize (e : Int) * _ = q
    rcases a with c | c <;> rw [c] <;> simp <;> omega
theorem phi_sum {P : List Int} {ns : List Sn} (e : Nat) (n : Nat) (h : ∀ v, v < n → (e : Int) * (4 + 2 * ((kids P v).length : Int)) ≤ phi P (nd ns v) v ∧ phi P (nd ns v) v ≤ (e : Int) * (4 + 2 * ((kids P v).length : Int)) + (4 + 2 * ((kids P v).length : Int))) :
    (e : Int) * Tot P n ≤ Phi P ns n ∧ Phi P ns n ≤ (e : Int) * Tot P n + Tot P n := by
  induction n with
  | zero => simp [Tot, Phi]
  | succ n ih =>
    have h1 := ih fun v hv => h v (by omega)
    have h2 := h n (by omega)
    unfold Tot Phi
    rw [Int.mul_add]
    omega
theorem win_bounds (h : Inv P ns) (ht : Tree P) {e : Nat} (hw : Win e ns) : (e : Int) * Tot P P.length ≤ Phi P ns P.length ∧ Phi P ns P.length ≤ (e : Int) * Tot P P.length + Tot P P.length := by
  refine phi_sum e P.length fun v hv => phi_win (an_le h hv) ?_
  unfold Win at hw
  rcases root_ph h ht with a | a | a
  · have := near0 h ht a _ v (Nat.lt_succ_self v) hv; omega
  · have := near1 h ht a _ v (Nat.lt_succ_self v) hv; omega
  · have := near3 h ht a _ v (Nat.lt_succ_self v) hv; omega
theorem rounds_inv (h : Inv P ns) (ht : Tree P) (k : Nat) : Inv P (roundsP P ns k) := by
  induction k with
  | zero => exact h
  | succ k ih => exact (round_fore ih ht).1
theorem rounds_up (h : Inv P ns) (ht : Tree P) (k : Nat) : (∀ e, Win e ns → Win e (roundsP P ns k)) ∧ ((nd (roundsP P ns k) 0).ph ≠ 0 → Phi P ns P.length + k ≤ Phi P (roundsP P ns k) P.length) ∧ ((nd ns 0).ph = 0 → (nd (roundsP P ns k) 0).ph = 0) := by
  induction k with
  | zero => exact ⟨fun _ h => h, fun _ => by simp [roundsP], fun h => h⟩
  | succ k ih =>
    obtain ⟨a, b, c⟩ := ih
    obtain ⟨p, q, r, s⟩ := round_fore (rounds_inv h ht k) ht
    refine ⟨fun e he => q e (a e he), fun h0 => ?_, fun h0 => s (c h0)⟩
    show _ ≤ Phi P (roundP P (roundsP P ns k)) P.length
    have h1 : (nd (roundsP P ns k) 0).ph ≠ 0 := fun e => h0 (s e)
    have := b h1
    have := r h1
    omega
/-- Every change is finished. -/
theorem finishes (h : Inv P ns) (ht : Tree P) {k : Nat} (hk : 6 * P.length ≤ k) : (nd (roundsP P ns k) 0).ph = 0 := by
  have hu := rounds_up h ht k
  apply Classical.byContradiction
  intro h0
  have hn0 : (nd ns 0).ph ≠ 0 := fun e => h0 (hu.2.2 e)
  obtain ⟨e, hw⟩ : ∃ e, Win e ns := by
    have hw := h.wf 0 ht.pos
    rcases root_ph h ht with a | a | a
    · exact absurd a hn0
    · exact ⟨(nd ns 0).ep, .inl ⟨a, rfl⟩⟩
    · have := hw.e3 a
      exact ⟨(nd ns 0).ep - 1, .inr ⟨.inl a, by omega⟩⟩
  have b1 := win_bounds h ht hw
  have b2 := win_bounds (rounds_inv h ht k) ht (hu.1 e hw)
  have b3 := hu.2.1 h0
  have := tot_le P
  have hpos := ht.pos
  have hs : Phi P ns P.length < Phi P (roundP P ns) P.length := (round_fore h ht).2.2.1 hn0
  have hst : Phi P (roundsP P ns k) P.length < Phi P (roundP P (roundsP P ns k)) P.length := (round_fore (rounds_inv h ht k) ht).2.2.1 h0
  have b4 := win_bounds (rounds_inv h ht (k + 1)) ht ((rounds_up h ht (k + 1)).1 e hw)
  have b5 : Phi P (roundsP P ns (k + 1)) P.length = Phi P (roundP P (roundsP P ns k)) P.length := rfl
  omega
end
end Go.Proofs.Ytibmbhnpmfgclaa
