/- Reconfig: the program's rules and the reference's go side by side. No program in sight. -/
import Derived.Test.YtibmbhnpmfgclaaRZJ
namespace Go.Proofs.Ytibmbhnpmfgclaa
set_option linter.unusedVariables false
set_option linter.unusedSimpArgs false
def rAns (rs : List Rp) (v f : Nat) : List Rp := rs.set v { rd rs v with L := (rd rs v).L.set f true }
def rGo (P : List Int) (rs : List Rp) (m : Mg) : OutR :=
  if m.kind = 1 then
    if m.ep = (rd rs m.to_.toNat).ep + 1 ∧ (rd rs m.to_.toNat).ph = 0 then rBegin P rs m.to_.toNat
    else if m.ep = (rd rs m.to_.toNat).ep + 1 ∧ (rd rs m.to_.toNat).ph = 2 then (rs, [⟨2, m.to_.toNat, m.frm.toNat, (rd rs m.to_.toNat).ep + 1⟩]) else (rs, [])
  else if m.kind = 2 then
    if m.ep = (rd rs m.to_.toNat).ep + 1 ∧ (rd rs m.to_.toNat).ph = 1 then
      if rAll P (rd (rAns rs m.to_.toNat m.frm.toNat) m.to_.toNat) m.to_.toNat then rPrepared P (rAns rs m.to_.toNat m.frm.toNat) m.to_.toNat else (rAns rs m.to_.toNat m.frm.toNat, [])
    else if m.ep = (rd rs m.to_.toNat).ep ∧ (rd rs m.to_.toNat).ph = 3 then (rs, [⟨3, m.to_.toNat, m.frm.toNat, (rd rs m.to_.toNat).ep⟩]) else (rs, [])
  else if m.kind = 3 then
    if m.ep = (rd rs m.to_.toNat).ep + 1 ∧ (rd rs m.to_.toNat).ph = 2 then rCommit P rs m.to_.toNat
    else if m.ep = (rd rs m.to_.toNat).ep ∧ (rd rs m.to_.toNat).ph = 0 then (rs, [⟨4, m.to_.toNat, m.frm.toNat, (rd rs m.to_.toNat).ep⟩]) else (rs, [])
  else
    if m.ep = (rd rs m.to_.toNat).ep ∧ (rd rs m.to_.toNat).ph = 3 then rRest P (rAns rs m.to_.toNat m.frm.toNat) m.to_.toNat else (rs, [])
def rRecv (P : List Int) (rs : List Rp) (m : Mg) : OutR := if errP P m = 0 then rGo P rs m else (rs, [])
def rSend (P : List Int) (y : Rp) (v : Nat) : List Mg :=
  if y.ph = 1 then ((kids P v).filter fun c => !(y.L.getD c false)).map fun (c : Nat) => ⟨1, v, c, y.ep + 1⟩
  else if y.ph = 2 then riseP P 2 v (y.ep + 1)
  else if y.ph = 3 then ((kids P v).filter fun c => !(y.L.getD c false)).map fun (c : Nat) => ⟨3, v, c, y.ep⟩ else []
def rRepK (P : List Int) (rs : List Rp) (k : Nat) : List Mg := (List.range k).flatMap fun v => rSend P (rd rs v) v
structure SimN (P : List Int) (x : Sn) (y : Rp) (v : Nat) : Prop where
  ep : y.ep = x.ep
  ph : y.ph = x.ph
  le : x.ph ≤ 3
  nd : x.an.Nodup
  sub : ∀ i, i ∈ x.an → i ∈ kids P v
  an : x.ph = 1 ∨ x.ph = 3 → y.L.length = P.length ∧ ∀ c, c < P.length → y.L.getD c false = x.an.contains c
  dr : x.ph = 3 → y.dr = x.dr
structure Sim (P : List Int) (ns : List Sn) (rs : List Rp) : Prop where
  ln : ns.length = P.length
  lr : rs.length = P.length
  at_ : ∀ v, v < P.length → SimN P (nd ns v) (rd rs v) v
def SimO (P : List Int) (o : OutP) (q : OutR) : Prop := Sim P o.1 q.1 ∧ o.2 = q.2
section
variable {P : List Int} {ns : List Sn} {rs : List Rp}
theorem Sim.set (h : Sim P ns rs) {v : Nat} {x : Sn} {y : Rp} (hx : SimN P x y v) : Sim P (ns.set v x) (rs.set v y) := by
  refine ⟨by rw [List.length_set, h.ln], by rw [List.length_set, h.lr], fun u hu => ?_⟩
  by_cases hv : v < P.length
  · rw [nd_set (by rw [h.ln]; exact hv), rd_set (by rw [h.lr]; exact hv)]
    by_cases e : u = v
    · subst e; rw [if_pos rfl, if_pos rfl]; exact hx
    · rw [if_neg e, if_neg e]; exact h.at_ u hu
  · rw [List.set_eq_of_length_le (by rw [h.ln]; omega), List.set_eq_of_length_le (by rw [h.lr]; omega)]; exact h.at_ u hu
theorem down_nil (kind ep : Int) (v e p : Nat) (d : Bool) : downP P ⟨e, p, [], d⟩ kind v ep = rDown P kind v ep := by
  unfold downP rDown
  rw [List.filter_eq_self.2 (by simp)]
theorem rep_getD (n c : Nat) : (List.replicate n false).getD c false = false := by
  simp only [List.getD_eq_getElem?_getD, List.getElem?_replicate]; split <;> rfl
theorem SimN.fresh {e p v : Nat} {d d' : Bool} (hp : p ≤ 3) (hd : p = 3 → d' = d) : SimN P ⟨e, p, [], d⟩ ⟨e, p, d', List.replicate P.length false⟩ v :=
  ⟨rfl, rfl, hp, List.nodup_nil, fun i hi => by simp at hi, fun _ => ⟨by simp, fun c _ => by rw [rep_getD]; rfl⟩, hd⟩
theorem Tree.neg (h : Tree P) {v : Nat} (hv : v < P.length) : parI P v < 0 ↔ v = 0 := by
  rcases Nat.eq_zero_or_pos v with e | e
  · subst e; simp [parI, h.root]
  · obtain ⟨p, _, hp⟩ := h.up v e hv
    simp [parI, hp]; omega
theorem commit_sim (h : Sim P ns rs) {v : Nat} (hv : v < P.length) : SimO P (commitP P ns v) (rCommit P rs v) := by
  have hx := h.at_ v hv
  unfold commitP rCommit
  rw [down_nil, hx.ep]
  exact ⟨h.set (SimN.fresh (by omega) fun _ => rfl), rfl⟩
theorem prepared_sim (h : Sim P ns rs) (ht : Tree P) {v : Nat} (hv : v < P.length) : SimO P (preparedP P 0 ns v) (rPrepared P rs v) := by
  unfold preparedP rPrepared
  by_cases e : v = 0
  · rw [if_pos e, if_pos ((ht.neg hv).2 e)]; exact commit_sim h hv
  · rw [if_neg e, if_neg (fun hh => e ((ht.neg hv).1 hh))]
    have hx := h.at_ v hv
    refine ⟨h.set ⟨hx.ep, rfl, (show (2 : Nat) ≤ 3 by omega), hx.nd, hx.sub, fun hh => by rcases hh with hh | hh <;> simp at hh, fun hh => by simp at hh⟩, ?_⟩
    rw [hx.ep]
theorem prepare_sim (h : Sim P ns rs) (ht : Tree P) {v : Nat} (hv : v < P.length) : SimO P (prepareP P 0 ns v) (rBegin P rs v) := by
  unfold prepareP rBegin
  have hx := h.at_ v hv
  have hs : Sim P (ns.set v { nd ns v with ph := 1, an := [] }) (rs.set v ⟨(rd rs v).ep, 1, (rd rs v).dr, List.replicate P.length false⟩) := by
    rw [hx.ep]; exact h.set (SimN.fresh (by omega) fun hh => by simp at hh)
  by_cases hk : kids P v = []
  · rw [if_pos hk, if_pos hk]; exact prepared_sim hs ht hv
  · rw [if_neg hk, if_neg hk]
    refine ⟨hs, ?_⟩
    show downP P ⟨(nd ns v).ep, 1, [], (nd ns v).dr⟩ 1 v _ = _
    rw [down_nil, hx.ep]
theorem full_sim {x : Sn} {y : Rp} {v : Nat} (h : SimN P x y v) (hp : x.ph = 1 ∨ x.ph = 3) : fullB P x v = rAll P y v := by
  have h1 := (h.an hp).2
  unfold fullB rAll
  rw [Bool.eq_iff_iff, beq_iff_eq, List.all_eq_true]
  constructor
  · intro hl c hc
    rw [h1 c (mem_kids.1 hc).1]
    simpa using Wf.full h.nd h.sub hl c hc
  · intro ha
    have h2 : (kids P v).length ≤ x.an.length := sub_len (kids_nodup P v) fun i hi => by
      have := ha i hi
      rw [h1 i (mem_kids.1 hi).1] at this
      simpa using this
    have h3 := sub_len h.nd h.sub
    omega
theorem answer_simN {x : Sn} {y : Rp} {v f : Nat} (h : SimN P x y v) (hp : x.ph = 1 ∨ x.ph = 3) (hf : f ∈ kids P v) : SimN P { x with an := addA x.an f } { y with L := y.L.set f true } v := by
  obtain ⟨h1, h2⟩ := h.an hp
  refine ⟨h.ep, h.ph, h.le, addA_nodup h.nd, fun i hi => ?_, fun _ => ⟨by simp only [List.length_set]; exact h1, fun c hc => ?_⟩, h.dr⟩
  · rcases mem_addA.1 hi with e | e
    · subst e; exact hf
    · exact h.sub i e
  · have hfl : f < y.L.length := by rw [h1]; exact (mem_kids.1 hf).1
    have := h2 c hc
    rw [Bool.eq_iff_iff]
    simp only [List.getD_eq_getElem?_getD, List.getElem?_set, List.contains_iff_mem, mem_addA] at this ⊢
    by_cases e : f = c
    · subst e; simp [hfl]
    · rw [if_neg e, this]
      simp only [List.contains_iff_mem]
      constructor
      · exact .inr
      · rintro (e2 | e2)
        · exact absurd e2.symm e
        · exact e2
theorem answer_sim (h : Sim P ns rs) {v f : Nat} (hv : v < P.length) (hp : (nd ns v).ph = 1 ∨ (nd ns v).ph = 3) (hf : f ∈ kids P v) : Sim P (answerP ns f v) (rAns rs v f) :=
  h.set (answer_simN (h.at_ v hv) hp hf)
theorem answer_ph {v f : Nat} (hv : v < ns.length) : (nd (answerP ns f v) v).ph = (nd ns v).ph := by
  unfold answerP; rw [nd_set hv, if_pos rfl]
theorem settle_sim (h : Sim P ns rs) (ht : Tree P) {v : Nat} (hv : v < P.length) (hp : (nd ns v).ph = 3) : SimO P (settleP P 0 ns v) (rRest P rs v) := by
  have hx := h.at_ v hv
  unfold settleP rRest
  rw [full_sim hx (.inr hp), hx.dr hp]
  split
  · refine ⟨h.set ⟨hx.ep, rfl, by simp, List.nodup_nil, fun i hi => by simp at hi, fun hh => by rcases hh with hh | hh <;> simp at hh, fun hh => by simp at hh⟩, ?_⟩
    by_cases e : v = 0
    · simp only [if_pos e, if_pos ((ht.neg hv).2 e)]
    · simp only [if_neg e, if_neg (fun hh => e ((ht.neg hv).1 hh))]; rw [hx.ep]
  · exact ⟨h, rfl⟩
theorem err_kids {m : Mg} (h : errP P m = 0) : (∃ f t : Nat, m.frm = f ∧ m.to_ = t ∧ f < P.length ∧ t < P.length) ∧ (m.kind = 1 ∨ m.kind = 2 ∨ m.kind = 3 ∨ m.kind = 4) ∧ (m.kind = 1 ∨ m.kind = 3 → parI P m.to_.toNat = m.frm) ∧ (m.kind = 2 ∨ m.kind = 4 → m.frm.toNat ∈ kids P m.to_.toNat) := by
  unfold errP at h
  by_cases h1 : m.kind < 1 ∨ 4 < m.kind
  · rw [if_pos h1] at h; omega
  rw [if_neg h1] at h
  by_cases h2 : m.frm < 0 ∨ P.length ≤ m.frm ∨ m.to_ < 0 ∨ P.length ≤ m.to_
  · rw [if_pos h2] at h; omega
  rw [if_neg h2] at h
  by_cases h3 : (m.kind = 1 ∨ m.kind = 3) ∧ parI P m.to_.toNat ≠ m.frm ∨ (m.kind = 2 ∨ m.kind = 4) ∧ parI P m.frm.toNat ≠ m.to_
  · rw [if_pos h3] at h; omega
  refine ⟨⟨m.frm.toNat, m.to_.toNat, by omega, by omega, by omega, by omega⟩, by omega, fun hk => ?_, fun hk => ?_⟩
  · by_cases e : parI P m.to_.toNat = m.frm
    · exact e
    · exact absurd (.inl ⟨hk, e⟩) h3
  · by_cases e : parI P m.frm.toNat = m.to_
    · rw [mem_kids]
      have hl : m.frm.toNat < P.length := by omega
      refine ⟨hl, ?_⟩
      unfold parI at e
      rw [List.getD_eq_getElem?_getD, List.getElem?_eq_getElem hl] at e
      rw [List.getElem?_eq_getElem hl]
      simp only [Option.getD_some] at e
      rw [e]; congr 1; omega
    · exact absurd (.inr ⟨hk, e⟩) h3
theorem recv_sim (h : Sim P ns rs) (ht : Tree P) (m : Mg) : SimO P (recvP P 0 ns m) (rRecv P rs m) := by
  unfold recvP rRecv
  by_cases he : errP P m = 0
  · rw [if_pos he, if_pos he]
    obtain ⟨⟨f, t, hf, htt, hfl, htl⟩, hk, hp1, hp2⟩ := err_kids he
    obtain ⟨k, mf, mt, ep⟩ := m
    simp only at hf htt hk hp1 hp2
    subst hf htt
    simp only [Int.toNat_natCast] at hp1 hp2
    have hx := h.at_ t htl
    unfold goP rGo
    simp only [Int.toNat_natCast]
    rw [hx.ep, hx.ph]
    rcases hk with rfl | rfl | rfl | rfl
    · rw [if_pos rfl, if_pos rfl]
      unfold recvPrepareP
      by_cases e1 : ep = (nd ns t).ep + 1
      · rw [if_pos e1]
        by_cases e2 : (nd ns t).ph = 0
        · rw [if_pos e2, if_pos ⟨e1, e2⟩]; exact prepare_sim h ht htl
        · rw [if_neg e2, if_neg (show ¬ (ep = (nd ns t).ep + 1 ∧ (nd ns t).ph = 0) from fun hh => e2 hh.2)]
          by_cases e3 : (nd ns t).ph = 2
          · rw [if_pos e3, if_pos ⟨e1, e3⟩]
            exact ⟨h, by unfold riseP; rw [hp1 (.inl rfl)]⟩
          · rw [if_neg e3, if_neg (show ¬ (ep = (nd ns t).ep + 1 ∧ (nd ns t).ph = 2) from fun hh => e3 hh.2)]; exact ⟨h, rfl⟩
      · rw [if_neg e1, if_neg (show ¬ (ep = (nd ns t).ep + 1 ∧ (nd ns t).ph = 0) from fun hh => e1 hh.1), if_neg (show ¬ (ep = (nd ns t).ep + 1 ∧ (nd ns t).ph = 2) from fun hh => e1 hh.1)]; exact ⟨h, rfl⟩
    · rw [if_neg (by decide), if_pos rfl, if_neg (by decide), if_pos rfl]
      unfold recvReadyP
      by_cases e1 : ep = (nd ns t).ep + 1 ∧ (nd ns t).ph = 1
      · rw [if_pos e1, if_pos e1]
        have ha := answer_sim h htl (.inl e1.2) (hp2 (.inl rfl))
        rw [full_sim (ha.at_ t htl) (.inl (by rw [answer_ph (by rw [h.ln]; exact htl)]; exact e1.2))]
        split
        · exact prepared_sim ha ht htl
        · exact ⟨ha, rfl⟩
      · rw [if_neg e1, if_neg e1]
        split
        · exact ⟨h, rfl⟩
        · exact ⟨h, rfl⟩
    · rw [if_neg (by decide), if_neg (by decide), if_pos rfl, if_neg (by decide), if_neg (by decide), if_pos rfl]
      unfold recvCommitP
      by_cases e1 : ep = (nd ns t).ep + 1 ∧ (nd ns t).ph = 2
      · rw [if_pos e1, if_pos e1]; exact commit_sim h htl
      · rw [if_neg e1, if_neg e1]
        split
        · exact ⟨h, by unfold riseP; rw [hp1 (.inr rfl)]⟩
        · exact ⟨h, rfl⟩
    · rw [if_neg (by decide), if_neg (by decide), if_neg (by decide), if_neg (by decide), if_neg (by decide), if_neg (by decide)]
      unfold recvDoneP
      by_cases e1 : ep = (nd ns t).ep ∧ (nd ns t).ph = 3
      · rw [if_pos e1, if_pos e1]
        have ha := answer_sim h htl (.inr e1.2) (hp2 (.inr rfl))
        exact settle_sim ha ht htl (by rw [answer_ph (by rw [h.ln]; exact htl)]; exact e1.2)
      · rw [if_neg e1, if_neg e1]; exact ⟨h, rfl⟩
  · rw [if_neg he, if_neg he]; exact ⟨h, rfl⟩
theorem rot_tree (ht : Tree P) : rotK P = 0 := rotK_yes ht.root (by omega) (fun i y hi => absurd hi (by omega))
theorem begin_sim (h : Sim P ns rs) (ht : Tree P) : SimO P (beginP P 0 ns) (beginR P rs) ∧ (if (nd ns 0).ph = 0 then (0 : Int) else 6) = beginE P rs := by
  have hx := h.at_ 0 ht.pos
  unfold beginP beginR beginE
  rw [rot_tree ht, hx.ph]
  refine ⟨?_, rfl⟩
  split
  · exact prepare_sim h ht ht.pos
  · exact ⟨h, rfl⟩
theorem drain_sim (h : Sim P ns rs) (ht : Tree P) (z : Int) : SimO P (drainP P 0 ns z) (drainedR P rs z) ∧ drainErr ns z = drainedE P rs z := by
  have he : drainErr ns z = drainedE P rs z := by
    unfold drainErr drainedE
    rw [h.ln]
    by_cases h1 : z < 0 ∨ (P.length : Int) ≤ z
    · rw [if_pos h1, if_pos h1]
    · rw [if_neg h1, if_neg h1, (h.at_ z.toNat (by omega)).ph]
  refine ⟨?_, he⟩
  unfold drainP drainedR
  rw [← he]
  by_cases h0 : drainErr ns z = 0
  · rw [if_pos h0, if_pos h0]
    have h1 : ¬ (z < 0 ∨ (ns.length : Int) ≤ z) ∧ (nd ns z.toNat).ph = 3 := by
      unfold drainErr at h0
      split at h0
      · omega
      · split at h0
        · omega
        · rename_i a b; exact ⟨a, by omega⟩
    have hl : z.toNat < P.length := by rw [← h.ln]; omega
    have hx := h.at_ z.toNat hl
    have hs : Sim P (ns.set z.toNat { nd ns z.toNat with dr := true }) (rs.set z.toNat { rd rs z.toNat with dr := true }) := h.set ⟨hx.ep, hx.ph, hx.le, hx.nd, hx.sub, hx.an, fun _ => rfl⟩
    refine settle_sim hs ht hl ?_
    rw [nd_set (by rw [h.ln]; exact hl), if_pos rfl]; exact h1.2
  · rw [if_neg h0, if_neg h0]; exact ⟨h, rfl⟩
theorem fm_congr {α β : Type} {l : List α} {f g : α → List β} (h : ∀ x, x ∈ l → f x = g x) : l.flatMap f = l.flatMap g := by
  induction l with
  | nil => rfl
  | cons a l ih => rw [List.flatMap_cons, List.flatMap_cons, h a List.mem_cons_self, ih fun x hx => h x (List.mem_cons_of_mem _ hx)]
theorem repeat_sim (h : Sim P ns rs) : repeatP P ns = rRepK P rs P.length := by
  unfold repeatP rRepK
  rw [h.ln]
  refine fm_congr fun v hv => ?_
  have hx := h.at_ v (List.mem_range.1 hv)
  have hd : (nd ns v).ph = 1 ∨ (nd ns v).ph = 3 → (kids P v).filter (fun c => !((rd rs v).L.getD c false)) = (kids P v).filter (fun c => !((nd ns v).an.contains c)) := fun hp =>
    List.filter_congr fun c hc => by rw [(hx.an hp).2 c (mem_kids.1 hc).1]
  unfold sendP rSend
  rw [hx.ep, hx.ph]
  by_cases e1 : (nd ns v).ph = 1
  · rw [if_pos e1, if_pos e1, hd (.inl e1)]; rfl
  · rw [if_neg e1, if_neg e1]
    by_cases e2 : (nd ns v).ph = 2
    · rw [if_pos e2, if_pos e2]
    · rw [if_neg e2, if_neg e2]
      by_cases e3 : (nd ns v).ph = 3
      · rw [if_pos e3, if_pos e3, hd (.inr e3)]; rfl
      · rw [if_neg e3, if_neg e3]
theorem ep_sim (h : Sim P ns rs) (z : Int) : epQ ns z = epR P rs z false ∧ phQ ns z = epR P rs z true := by
  unfold epQ phQ epR
  rw [h.ln]
  by_cases h1 : z < 0 ∨ (P.length : Int) ≤ z
  · rw [if_pos h1, if_pos h1, if_pos h1, if_pos h1]; exact ⟨rfl, rfl⟩
  · rw [if_neg h1, if_neg h1, if_neg h1, if_neg h1, (h.at_ z.toNat (by omega)).ep, (h.at_ z.toNat (by omega)).ph]; exact ⟨rfl, rfl⟩
/-- No epoch grows by more than one. -/
def Ep1 (ns ns' : List Sn) : Prop := ∀ v, (nd ns' v).ep ≤ (nd ns v).ep + 1
theorem Ep1.set {v : Nat} {x : Sn} (h : x.ep ≤ (nd ns v).ep + 1) : Ep1 ns (ns.set v x) := fun u => by
  by_cases hv : v < ns.length
  · rw [nd_set hv]
    split
    · rename_i e; subst e; exact h
    · omega
  · rw [List.set_eq_of_length_le (by omega)]; omega
theorem commit_ep (v : Nat) : Ep1 ns (commitP P ns v).1 := Ep1.set (Nat.le_refl _)
theorem Ep1.set0 {ns' : List Sn} {v : Nat} {x : Sn} (h : Ep1 (ns.set v x) ns') (hx : x.ep = (nd ns v).ep) : Ep1 ns ns' := fun u => by
  have := h u
  by_cases hv : v < ns.length
  · rw [nd_set hv] at this
    split at this
    · rename_i e; subst e; rw [hx] at this; exact this
    · exact this
  · rw [List.set_eq_of_length_le (by omega)] at this; exact this
theorem prepared_ep (v : Nat) : Ep1 ns (preparedP P 0 ns v).1 := by
  unfold preparedP
  split
  · exact commit_ep v
  · exact Ep1.set (Nat.le_succ _)
theorem prepare_ep (v : Nat) : Ep1 ns (prepareP P 0 ns v).1 := by
  unfold prepareP
  split
  · exact Ep1.set0 (prepared_ep v) rfl
  · exact Ep1.set (Nat.le_succ _)
theorem settle_ep (v : Nat) : Ep1 ns (settleP P 0 ns v).1 := by
  unfold settleP
  split
  · exact Ep1.set (Nat.le_succ _)
  · exact fun u => Nat.le_succ _
theorem recv_ep (m : Mg) : Ep1 ns (recvP P 0 ns m).1 := by
  have h0 : Ep1 ns ns := fun u => Nat.le_succ _
  unfold recvP goP recvPrepareP recvReadyP recvCommitP recvDoneP
  repeat' split
  all_goals first | exact h0 | exact prepare_ep _ | exact commit_ep _ | exact Ep1.set0 (prepared_ep _) rfl | exact Ep1.set (Nat.le_succ _) | exact Ep1.set0 (settle_ep _) rfl
theorem begin_ep : Ep1 ns (beginP P 0 ns).1 := by
  unfold beginP
  split
  · exact prepare_ep _
  · exact fun u => Nat.le_succ _
theorem drain_ep (z : Int) : Ep1 ns (drainP P 0 ns z).1 := by
  unfold drainP
  split
  · exact Ep1.set0 (settle_ep _) rfl
  · exact fun u => Nat.le_succ _
theorem Sim.start : Sim P (List.replicate P.length sn0) (List.replicate P.length ⟨0, 0, false, []⟩) := by
  refine ⟨by simp, by simp, fun v hv => ?_⟩
  rw [nd_rep]
  have : rd (List.replicate P.length (⟨0, 0, false, []⟩ : Rp)) v = ⟨0, 0, false, []⟩ := by
    unfold rd; simp only [List.getD_eq_getElem?_getD, List.getElem?_replicate]; split <;> rfl
  rw [this]
  exact ⟨rfl, rfl, by simp [sn0], by simp [sn0], fun i hi => by simp [sn0] at hi, fun hh => by simp [sn0] at hh, fun hh => by simp [sn0] at hh⟩
theorem Sim.fit (h : Sim P ns rs) {k : Nat} (hk : ∀ v, (nd ns v).ep ≤ k) (hk2 : k ≤ 100000) (hp : P.length ≤ 10) : Fit ns :=
  ⟨fun v _ => Nat.le_trans (hk v) (by unfold MaxEp; omega), fun v hv => (h.at_ v (by rw [← h.ln]; exact hv)).le, fun v hv => by
    have hx := h.at_ v (by rw [← h.ln]; exact hv)
    have h1 := sub_len hx.nd hx.sub
    have h2 := kids_len P v
    omega⟩
end
end Go.Proofs.Ytibmbhnpmfgclaa
