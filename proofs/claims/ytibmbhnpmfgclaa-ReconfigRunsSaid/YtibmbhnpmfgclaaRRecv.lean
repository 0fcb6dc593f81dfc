/- Reconfig: every operation keeps what always holds. No program in sight. -/
import Derived.Test.YtibmbhnpmfgclaaRInv
namespace Go.Proofs.Ytibmbhnpmfgclaa
set_option linter.unusedVariables false
set_option linter.unusedSimpArgs false
section
variable {P : List Int} {ns : List Sn}
theorem par_kid {P : List Int} {f t : Nat} (ht : t < P.length) (h : parI P t = f) : t ∈ kids P f := by
  refine mem_kids.2 ⟨ht, ?_⟩
  simp only [parI, List.getD_eq_getElem?_getD, List.getElem?_eq_getElem ht, Option.getD_some] at h
  rw [List.getElem?_eq_getElem ht, h]
theorem stg_ph {x : Sn} (h : x.ph ≤ 3) : (x.ph = 0 ∧ stg x = 4 * x.ep) ∨ (x.ph = 1 ∧ stg x = 4 * x.ep + 1) ∨ (x.ph = 2 ∧ stg x = 4 * x.ep + 2) ∨ (x.ph = 3 ∧ stg x = 4 * x.ep - 1) := by
  unfold stg
  rcases (by omega : x.ph = 0 ∨ x.ph = 1 ∨ x.ph = 2 ∨ x.ph = 3) with e | e | e | e <;> simp [e] <;> omega
theorem recvPrepare_good (h : Inv P ns) (ht : Tree P) {f t : Nat} {ep : Int} (hk : t ∈ kids P f) (hm : 4 * (ep - 1) + 1 ≤ stg (nd ns f)) : Good P ns (recvPrepareP P 0 ns f t ep) := by
  have hf := (ht.par hk).1
  have htn := (mem_kids.1 hk).1
  have hr := h.rel f t hk
  have hwf := h.wf f hf
  unfold recvPrepareP
  by_cases h1 : ep = (nd ns t).ep + 1
  · rw [if_pos h1]
    by_cases h2 : (nd ns t).ph = 0
    · rw [if_pos h2]
      refine prepare_good h ht htn h2 fun p hp => ?_
      obtain rfl := Tree.uniq hk hp
      rcases stg_ph hwf.ph with ⟨e, s⟩ | ⟨e, s⟩ | ⟨e, s⟩ | ⟨e, s⟩
      · have := hr.r0 e; omega
      · have := hr.r1 e; exact ⟨e, by omega⟩
      · have := hr.r2 e; omega
      · have := (hr.r3 e).1; omega
    · rw [if_neg h2]
      by_cases h3 : (nd ns t).ph = 2
      · rw [if_pos h3]
        refine good_stay h fun m hm' => ?_
        unfold riseP at hm'
        simp only [List.mem_singleton] at hm'
        subst hm'
        refine ⟨by simp, by simpa using htn, ?_⟩
        unfold stg; simp [h3] <;> omega
      · rw [if_neg h3]; exact good_stay h fun m hm' => by simp at hm'
  · rw [if_neg h1]; exact good_stay h fun m hm' => by simp at hm'
theorem recvReady_good (h : Inv P ns) (ht : Tree P) {f t : Nat} {ep : Int} (hk : f ∈ kids P t) (hm : 4 * (ep - 1) + 2 ≤ stg (nd ns f)) : Good P ns (recvReadyP P 0 ns f t ep) := by
  have htn := (ht.par hk).1
  have htl : t < ns.length := by rw [h.len]; exact htn
  have hfn := (mem_kids.1 hk).1
  have hr := h.rel t f hk
  have hwt := h.wf t htn
  have hwf := h.wf f hfn
  unfold recvReadyP
  by_cases h1 : ep = (nd ns t).ep + 1 ∧ (nd ns t).ph = 1
  · rw [if_pos h1]
    obtain ⟨h1, h2⟩ := h1
    have hc := hr.r1 h2
    have hfp : (nd ns f).ph = 2 := by rcases stg_ph hwf.ph with ⟨e, s⟩ | ⟨e, s⟩ | ⟨e, s⟩ | ⟨e, s⟩ <;> omega
    have hn := addA_nodup (k := f) hwt.nd
    have hsub : ∀ i, i ∈ addA (nd ns t).an f → i ∈ kids P t := fun i hi => by
      rcases mem_addA.1 hi with rfl | hi
      · exact hk
      · exact hwt.sub i hi
    have hall : ∀ i, i ∈ addA (nd ns t).an f → (nd ns i).ph = 2 := fun i hi => by
      rcases mem_addA.1 hi with rfl | hi
      · exact hfp
      · exact ((h.rel t i (hwt.sub i hi)).r1 h2).2.2 hi
    have hpar : ∀ p, t ∈ kids P p → (nd ns p).ph = 1 ∧ (nd ns p).ep = (nd ns t).ep := fun p hp => by
      have hr := h.rel p t hp
      have := (h.wf p (ht.par hp).1).ph
      rcases (by omega : (nd ns p).ph = 0 ∨ (nd ns p).ph = 1 ∨ (nd ns p).ph = 2 ∨ (nd ns p).ph = 3) with e | e | e | e
      · have := hr.r0 e; omega
      · have := hr.r1 e; exact ⟨e, by omega⟩
      · have := hr.r2 e; omega
      · have := (hr.r3 e).1; omega
    unfold answerP
    rw [nd_set htl, if_pos rfl]
    by_cases hf : fullB P { nd ns t with an := addA (nd ns t).an f } t = true
    · rw [if_pos hf]
      simp only [fullB, beq_iff_eq] at hf
      have hfu := Wf.full (x := { nd ns t with an := addA (nd ns t).an f }) hn hsub hf
      exact prepared_good h ht htn (by omega) _ rfl (fun e => e) hn hsub (fun i hi => ⟨hall i (hfu i hi), ((h.rel t i hi).r1 h2).2.1⟩) hpar
    · rw [if_neg hf]
      simp only [fullB, beq_iff_eq] at hf
      by_cases hin : f ∈ (nd ns t).an
      · have hx : ({ nd ns t with an := addA (nd ns t).an f } : Sn) = nd ns t := Sn.ext_ rfl rfl (by simp [addA, hin]) rfl
        rw [hx, set_same htl]
        exact good_stay h fun m hm' => by simp at hm'
      · refine good_set h ht htn ⟨hwt.ph, hn, hsub, fun _ => hf, fun e => by simp [h2] at e, hwt.c2, hwt.e3⟩ (fun i hi => ?_) (fun p hp => ?_) (Int.le_refl _) (Nat.le_refl _) (Nat.le_succ _) ?_ (fun m hm' => by simp at hm') (fun e => ⟨e, rfl⟩) (fun e => by simp [h2] at e) (.inl rfl) (fun _ => by omega)
        · have hr := h.rel t i hi
          exact ⟨fun e => by simp [h2] at e, fun _ => ⟨(hr.r1 h2).1, (hr.r1 h2).2.1, fun hi => hall i hi⟩, fun e => by simp [h2] at e, fun e => by simp [h2] at e⟩
        · have hr := h.rel p t hp
          exact ⟨hr.r0, hr.r1, hr.r2, hr.r3⟩
        · unfold phi
          simp only [h2]
          generalize ((nd ns t).ep : Int) * _ = q
          simp [addA, hin] <;> omega
  · rw [if_neg h1]
    by_cases h2 : ep = (nd ns t).ep ∧ (nd ns t).ph = 3
    · rw [if_pos h2]
      refine good_stay h fun m hm' => ?_
      simp only [List.mem_singleton] at hm'
      subst hm'
      refine ⟨by simp, by simpa using htn, ?_⟩
      unfold stg; simp [h2.2] <;> omega
    · rw [if_neg h2]; exact good_stay h fun m hm' => by simp at hm'
theorem recvCommit_good (h : Inv P ns) (ht : Tree P) {f t : Nat} {ep : Int} (hk : t ∈ kids P f) (hm : 4 * (ep - 1) + 3 ≤ stg (nd ns f)) : Good P ns (recvCommitP P 0 ns f t ep) := by
  have hf := (ht.par hk).1
  have htn := (mem_kids.1 hk).1
  have htl : t < ns.length := by rw [h.len]; exact htn
  have hr := h.rel f t hk
  have hwf := h.wf f hf
  unfold recvCommitP
  by_cases h1 : ep = (nd ns t).ep + 1 ∧ (nd ns t).ph = 2
  · rw [if_pos h1]
    obtain ⟨h1, h2⟩ := h1
    have := commit_good h ht htn (by omega) (nd ns t) rfl (fun i hi => (h.rel t i hi).r2 h2) (fun p hp => by
      obtain rfl := Tree.uniq hk hp
      rcases stg_ph hwf.ph with ⟨e, s⟩ | ⟨e, s⟩ | ⟨e, s⟩ | ⟨e, s⟩
      · have := hr.r0 e; omega
      · have := hr.r1 e; omega
      · have := hr.r2 e; omega
      · have h3 := hr.r3 e; exact ⟨e, by omega, fun hi => by have := h3.2 hi; omega⟩)
    rwa [set_same htl] at this
  · rw [if_neg h1]
    by_cases h2 : ep = (nd ns t).ep ∧ (nd ns t).ph = 0
    · rw [if_pos h2]
      refine good_stay h fun m hm' => ?_
      unfold riseP at hm'
      simp only [List.mem_singleton] at hm'
      subst hm'
      refine ⟨by simp, by simpa using htn, ?_⟩
      unfold stg; simp [h2.2] <;> omega
    · rw [if_neg h2]; exact good_stay h fun m hm' => by simp at hm'
theorem recvDone_good (h : Inv P ns) (ht : Tree P) {f t : Nat} {ep : Int} (hk : f ∈ kids P t) (hm : 4 * (ep - 1) + 4 ≤ stg (nd ns f)) : Good P ns (recvDoneP P 0 ns f t ep) := by
  have htn := (ht.par hk).1
  have hfn := (mem_kids.1 hk).1
  have hr := h.rel t f hk
  have hwt := h.wf t htn
  have hwf := h.wf f hfn
  unfold recvDoneP
  by_cases h1 : ep = (nd ns t).ep ∧ (nd ns t).ph = 3
  · rw [if_pos h1]
    obtain ⟨h1, h2⟩ := h1
    have hc := (hr.r3 h2).1
    have hfp : (nd ns f).ph = 0 ∧ (nd ns f).ep = (nd ns t).ep := by rcases stg_ph hwf.ph with ⟨e, s⟩ | ⟨e, s⟩ | ⟨e, s⟩ | ⟨e, s⟩ <;> omega
    refine settle_good h ht htn h2 _ (addA_nodup hwt.nd) (fun i hi => ?_) ?_ (fun e => ?_) (fun i hi => ?_)
    · rcases mem_addA.1 hi with rfl | hi
      · exact hk
      · exact hwt.sub i hi
    · unfold addA; split <;> simp
    · unfold addA at e ⊢; split
      · rfl
      · rename_i hin; rw [if_neg hin] at e; simp at e
    · rcases mem_addA.1 hi with rfl | hi
      · exact hfp
      · exact ((h.rel t i (hwt.sub i hi)).r3 h2).2 hi
  · rw [if_neg h1]; exact good_stay h fun m hm' => by simp at hm'
/-- A valid message runs along an edge of the tree. -/
theorem err_none {m : Mg} (h : errP P m = 0) : 1 ≤ m.kind ∧ m.kind ≤ 4 ∧ 0 ≤ m.frm ∧ m.frm < P.length ∧ 0 ≤ m.to_ ∧ m.to_ < P.length ∧ (m.kind = 1 ∨ m.kind = 3 → m.to_.toNat ∈ kids P m.frm.toNat) ∧ (m.kind = 2 ∨ m.kind = 4 → m.frm.toNat ∈ kids P m.to_.toNat) := by
  unfold errP at h
  split at h
  · omega
  · rename_i h1
    split at h
    · omega
    · rename_i h2
      split at h
      · omega
      · rename_i h3
        refine ⟨by omega, by omega, by omega, by omega, by omega, by omega, fun e => ?_, fun e => ?_⟩
        · refine par_kid (by omega) ?_
          by_cases q : parI P m.to_.toNat = m.frm
          · omega
          · exact absurd (Or.inl ⟨e, q⟩) h3
        · refine par_kid (by omega) ?_
          by_cases q : parI P m.frm.toNat = m.to_
          · omega
          · exact absurd (Or.inr ⟨e, q⟩) h3
theorem recv_good (h : Inv P ns) (ht : Tree P) (m : Mg) (hm : MOk P ns m) : Good P ns (recvP P 0 ns m) := by
  unfold recvP
  by_cases he : errP P m = 0
  · rw [if_pos he]
    obtain ⟨k1, k4, f0, f1, t0, t1, h13, h24⟩ := err_none he
    obtain ⟨_, _, hs⟩ := hm
    unfold goP
    by_cases e1 : m.kind = 1
    · rw [if_pos e1]; exact recvPrepare_good h ht (h13 (.inl e1)) (by rw [e1] at hs; exact hs)
    rw [if_neg e1]
    by_cases e2 : m.kind = 2
    · rw [if_pos e2]; exact recvReady_good h ht (h24 (.inl e2)) (by rw [e2] at hs; exact hs)
    rw [if_neg e2]
    by_cases e3 : m.kind = 3
    · rw [if_pos e3]; exact recvCommit_good h ht (h13 (.inr e3)) (by rw [e3] at hs; exact hs)
    rw [if_neg e3]
    have e4 : m.kind = 4 := by omega
    exact recvDone_good h ht (h24 (.inr e4)) (by rw [e4] at hs; exact hs)
  · rw [if_neg he]; exact good_stay h fun m hm' => by simp at hm'
theorem begin_good (h : Inv P ns) (ht : Tree P) : Good P ns (beginP P 0 ns) := by
  unfold beginP
  by_cases e : (nd ns 0).ph = 0
  · rw [if_pos e]; exact prepare_good h ht ht.pos e fun p hp => absurd (ht.lt hp) (by omega)
  · rw [if_neg e]; exact good_stay h fun m hm' => by simp at hm'
theorem drain_ok {v : Int} (he : drainErr ns v = 0) : 0 ≤ v ∧ v.toNat < ns.length ∧ (nd ns v.toNat).ph = 3 := by
  unfold drainErr at he
  split at he
  · omega
  · split at he
    · omega
    · exact ⟨by omega, by omega, by omega⟩
/-- Being drained: the node is marked, or it comes to rest. -/
structure GoodD (P : List Int) (ns : List Sn) (v : Nat) (o : OutP) : Prop where
  inv : Inv P o.1
  le : Le ns o.1
  msg : ∀ m, m ∈ o.2 → MOk P o.1 m
  up : (o.1 = ns.set v { nd ns v with dr := true } ∧ (nd ns v).an.length ≠ (kids P v).length) ∨ Phi P ns P.length < Phi P o.1 P.length
  tr : ∀ u, u ≠ v → nd o.1 u = nd ns u
  ep : (nd o.1 v).ep = (nd ns v).ep
  pv : (nd o.1 v).ph = 3 ∨ (nd o.1 v).ph = 0
theorem drain_good (h : Inv P ns) (ht : Tree P) {v : Nat} (hv : v < P.length) (hph : (nd ns v).ph = 3) : GoodD P ns v (settleP P 0 (ns.set v { nd ns v with dr := true }) v) := by
  have hvl : v < ns.length := by rw [h.len]; exact hv
  have hw := h.wf v hv
  have hpar : ∀ p, v ∈ kids P p → (nd ns p).ph = 3 ∧ (nd ns p).ep = (nd ns v).ep := fun p hp => by
    have hr := h.rel p v hp
    have := (h.wf p (ht.par hp).1).ph
    rcases (by omega : (nd ns p).ph = 0 ∨ (nd ns p).ph = 1 ∨ (nd ns p).ph = 2 ∨ (nd ns p).ph = 3) with e | e | e | e
    · have := hr.r0 e; omega
    · have := hr.r1 e; omega
    · have := hr.r2 e; omega
    · have := (hr.r3 e).1; exact ⟨e, by omega⟩
  unfold settleP
  rw [nd_set hvl, if_pos rfl]
  have hs : stg (nd ns v) = 4 * (nd ns v).ep - 1 := by unfold stg; simp [hph] <;> omega
  by_cases hf : fullB P { nd ns v with dr := true } v = true
  · have hc : (({ nd ns v with dr := true } : Sn).dr && fullB P { nd ns v with dr := true } v) = true := by rw [hf]; rfl
    rw [if_pos hc, List.set_set]
    simp only [fullB, beq_iff_eq] at hf
    have hall := Wf.full hw.nd hw.sub hf
    refine ⟨h.set ht hv ⟨by simp, List.nodup_nil, fun i hi => by simp at hi, fun e => by simp at e, fun e => by simp at e, fun _ => by simp, fun e => by simp at e⟩ (fun i hi => ?_) (fun p hp' => ?_), le_set hvl ?_ (by simp) (by simp), fun m hm => ?_, .inr ?_, fun u hu => ?_, ?_, ?_⟩
    · obtain ⟨h1, h2⟩ := ((h.rel v i hi).r3 hph).2 (hall i hi)
      exact ⟨fun _ => ⟨h1, h2⟩, fun e => by simp at e, fun e => by simp at e, fun e => by simp at e⟩
    · obtain ⟨h1, h2⟩ := hpar p hp'
      exact ⟨fun e => by omega, fun e => by omega, fun e => by omega, fun _ => ⟨.inr ⟨.inr rfl, h2.symm⟩, fun _ => ⟨rfl, h2.symm⟩⟩⟩
    · rw [hs]; unfold stg; simp <;> omega
    · by_cases e : v = 0
      · rw [if_pos e] at hm; simp at hm
      · rw [if_neg e] at hm
        unfold riseP at hm
        simp only [List.mem_singleton] at hm
        subst hm
        refine ⟨by simp, by simpa using hv, ?_⟩
        show _ ≤ stg (nd (ns.set v _) _)
        rw [nd_set hvl, if_pos (by simp)]
        unfold stg; simp <;> omega
    · show _ < Phi P (ns.set v _) P.length
      rw [Phi_set hvl, if_pos hv]
      unfold phi
      simp only [hph]
      generalize ((nd ns v).ep : Int) * _ = q
      simp <;> omega
    · show nd (ns.set v _) u = _
      rw [nd_set hvl, if_neg hu]
    · show (nd (ns.set v _) v).ep = _
      rw [nd_set hvl, if_pos rfl]
    · show (nd (ns.set v _) v).ph = 3 ∨ (nd (ns.set v _) v).ph = 0
      rw [nd_set hvl, if_pos rfl]; exact .inr rfl
  · have hc : ¬ (({ nd ns v with dr := true } : Sn).dr && fullB P { nd ns v with dr := true } v) = true := by simpa using hf
    rw [if_neg hc]
    simp only [fullB, beq_iff_eq] at hf
    refine ⟨h.set ht hv ⟨hw.ph, hw.nd, hw.sub, fun e => by simp [hph] at e, fun _ _ => hf, hw.c2, hw.e3⟩ (fun i hi => ?_) (fun p hp' => ?_), le_set hvl (Int.le_refl _) (Nat.le_refl _) (Nat.le_succ _), fun m hm => by simp at hm, .inl ⟨rfl, hf⟩, fun u hu => ?_, ?_, ?_⟩
    · have hr := h.rel v i hi
      exact ⟨hr.r0, hr.r1, hr.r2, hr.r3⟩
    · have hr := h.rel p v hp'
      exact ⟨hr.r0, hr.r1, hr.r2, hr.r3⟩
    · show nd (ns.set v _) u = _
      rw [nd_set hvl, if_neg hu]
    · show (nd (ns.set v _) v).ep = _
      rw [nd_set hvl, if_pos rfl]
    · show (nd (ns.set v _) v).ph = 3 ∨ (nd (ns.set v _) v).ph = 0
      rw [nd_set hvl, if_pos rfl]; exact .inl hph
end
end Go.Proofs.Ytibmbhnpmfgclaa
