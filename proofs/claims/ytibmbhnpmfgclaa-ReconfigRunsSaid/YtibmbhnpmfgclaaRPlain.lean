/- Reconfig as mathematics: the rules of the two phases, and what always holds. No program in sight. -/
import Derived.Test.YtibmbhnpmfgclaaKit
namespace Go.Proofs.Ytibmbhnpmfgclaa
set_option linter.unusedVariables false
set_option linter.unusedSimpArgs false
structure Mg where
  kind : Int
  frm : Int
  to_ : Int
  ep : Int
deriving DecidableEq, Inhabited
structure Sn where
  ep : Nat
  ph : Nat
  an : List Nat
  dr : Bool
deriving Inhabited
theorem Sn.ext_ {x y : Sn} (h1 : x.ep = y.ep) (h2 : x.ph = y.ph) (h3 : x.an = y.an) (h4 : x.dr = y.dr) : x = y := by
  cases x; cases y; simp_all
def kids (P : List Int) (v : Nat) : List Nat := (List.range P.length).filter fun i => P[i]? == some (v : Int)
theorem mem_kids {P : List Int} {v i : Nat} : i ∈ kids P v ↔ i < P.length ∧ P[i]? = some (v : Int) := by
  simp [kids]
theorem kids_nodup (P : List Int) (v : Nat) : (kids P v).Nodup := List.Nodup.sublist (List.filter_sublist) List.nodup_range
theorem kids_len (P : List Int) (v : Nat) : (kids P v).length ≤ P.length := by
  have := List.length_filter_le (fun i => P[i]? == some (v : Int)) (List.range P.length)
  rwa [List.length_range] at this
def nd (ns : List Sn) (v : Nat) : Sn := ns.getD v ⟨0, 0, [], false⟩
theorem nd_set {ns : List Sn} {v : Nat} (hv : v < ns.length) (x : Sn) (u : Nat) : nd (ns.set v x) u = if u = v then x else nd ns u := by
  unfold nd
  simp only [List.getD_eq_getElem?_getD, List.getElem?_set]
  by_cases h : v = u
  · subst h; simp [hv]
  · rw [if_neg h, if_neg (fun e => h e.symm)]
theorem nd_get {ns : List Sn} {v : Nat} {x : Sn} (h : ns[v]? = some x) : nd ns v = x := by simp [nd, h]
theorem nd_some {ns : List Sn} {v : Nat} (h : v < ns.length) : ns[v]? = some (nd ns v) := by simp [nd, h]
def downP (P : List Int) (x : Sn) (kind : Int) (v : Nat) (ep : Int) : List Mg := ((kids P v).filter fun c => !(x.an.contains c)).map fun (c : Nat) => ⟨kind, v, c, ep⟩
theorem mem_down {P : List Int} {x : Sn} {kind ep : Int} {v : Nat} {m : Mg} (h : m ∈ downP P x kind v ep) : ∃ c, c ∈ kids P v ∧ c ∉ x.an ∧ m = ⟨kind, v, c, ep⟩ := by
  unfold downP at h
  obtain ⟨c, hc, rfl⟩ := List.mem_map.1 h
  obtain ⟨h1, h2⟩ := List.mem_filter.1 hc
  exact ⟨c, h1, by simpa using h2, rfl⟩
theorem down_mem {P : List Int} {x : Sn} {kind ep : Int} {v c : Nat} (h1 : c ∈ kids P v) (h2 : c ∉ x.an) : (⟨kind, v, c, ep⟩ : Mg) ∈ downP P x kind v ep :=
  List.mem_map.2 ⟨c, List.mem_filter.2 ⟨h1, by simpa using h2⟩, rfl⟩
theorem down_len (P : List Int) (x : Sn) (kind : Int) (v : Nat) (ep : Int) : (downP P x kind v ep).length ≤ P.length := by
  unfold downP
  rw [List.length_map]
  exact Nat.le_trans (List.length_filter_le _ _) (kids_len P v)
def parI (P : List Int) (v : Nat) : Int := P.getD v (-1)
def riseP (P : List Int) (kind : Int) (v : Nat) (ep : Int) : List Mg := [⟨kind, v, parI P v, ep⟩]
abbrev OutP := List Sn × List Mg
def commitP (P : List Int) (ns : List Sn) (v : Nat) : OutP :=
  (ns.set v ⟨(nd ns v).ep + 1, 3, [], false⟩, downP P ⟨(nd ns v).ep + 1, 3, [], false⟩ 3 v ((nd ns v).ep + 1))
def preparedP (P : List Int) (root : Nat) (ns : List Sn) (v : Nat) : OutP :=
  if v = root then commitP P ns v else (ns.set v { nd ns v with ph := 2 }, riseP P 2 v ((nd ns v).ep + 1))
def prepareP (P : List Int) (root : Nat) (ns : List Sn) (v : Nat) : OutP :=
  if kids P v = [] then preparedP P root (ns.set v { nd ns v with ph := 1, an := [] }) v
  else (ns.set v { nd ns v with ph := 1, an := [] }, downP P { nd ns v with ph := 1, an := [] } 1 v ((nd ns v).ep + 1))
def fullB (P : List Int) (x : Sn) (v : Nat) : Bool := x.an.length == (kids P v).length
def settleP (P : List Int) (root : Nat) (ns : List Sn) (v : Nat) : OutP :=
  if (nd ns v).dr && fullB P (nd ns v) v then (ns.set v ⟨(nd ns v).ep, 0, [], false⟩, if v = root then [] else riseP P 4 v (nd ns v).ep) else (ns, [])
def addA (l : List Nat) (k : Nat) : List Nat := if k ∈ l then l else k :: l
def recvPrepareP (P : List Int) (root : Nat) (ns : List Sn) (f t : Nat) (ep : Int) : OutP :=
  if ep = (nd ns t).ep + 1 then
    if (nd ns t).ph = 0 then prepareP P root ns t
    else if (nd ns t).ph = 2 then (ns, riseP P 2 t ((nd ns t).ep + 1))
    else (ns, [])
  else (ns, [])
def answerP (ns : List Sn) (f t : Nat) : List Sn := ns.set t { nd ns t with an := addA (nd ns t).an f }
def recvReadyP (P : List Int) (root : Nat) (ns : List Sn) (f t : Nat) (ep : Int) : OutP :=
  if ep = (nd ns t).ep + 1 ∧ (nd ns t).ph = 1 then
    if fullB P (nd (answerP ns f t) t) t then preparedP P root (answerP ns f t) t else (answerP ns f t, [])
  else if ep = (nd ns t).ep ∧ (nd ns t).ph = 3 then (ns, [⟨3, t, f, (nd ns t).ep⟩])
  else (ns, [])
def recvCommitP (P : List Int) (root : Nat) (ns : List Sn) (f t : Nat) (ep : Int) : OutP :=
  if ep = (nd ns t).ep + 1 ∧ (nd ns t).ph = 2 then commitP P ns t
  else if ep = (nd ns t).ep ∧ (nd ns t).ph = 0 then (ns, riseP P 4 t (nd ns t).ep)
  else (ns, [])
def recvDoneP (P : List Int) (root : Nat) (ns : List Sn) (f t : Nat) (ep : Int) : OutP :=
  if ep = (nd ns t).ep ∧ (nd ns t).ph = 3 then settleP P root (answerP ns f t) t else (ns, [])
/-- The error that a message brings about (0: none). -/
def errP (P : List Int) (m : Mg) : Int :=
  if m.kind < 1 ∨ 4 < m.kind then 16
  else if m.frm < 0 ∨ P.length ≤ m.frm ∨ m.to_ < 0 ∨ P.length ≤ m.to_ then 2
  else if (m.kind = 1 ∨ m.kind = 3) ∧ parI P m.to_.toNat ≠ m.frm ∨ (m.kind = 2 ∨ m.kind = 4) ∧ parI P m.frm.toNat ≠ m.to_ then 12
  else 0
def goP (P : List Int) (root : Nat) (ns : List Sn) (m : Mg) : OutP :=
  if m.kind = 1 then recvPrepareP P root ns m.frm.toNat m.to_.toNat m.ep
  else if m.kind = 2 then recvReadyP P root ns m.frm.toNat m.to_.toNat m.ep
  else if m.kind = 3 then recvCommitP P root ns m.frm.toNat m.to_.toNat m.ep
  else recvDoneP P root ns m.frm.toNat m.to_.toNat m.ep
def recvP (P : List Int) (root : Nat) (ns : List Sn) (m : Mg) : OutP := if errP P m = 0 then goP P root ns m else (ns, [])
def beginP (P : List Int) (root : Nat) (ns : List Sn) : OutP := if (nd ns root).ph = 0 then prepareP P root ns root else (ns, [])
def drainErr (ns : List Sn) (v : Int) : Int := if v < 0 ∨ ns.length ≤ v then 2 else if (nd ns v.toNat).ph ≠ 3 then 6 else 0
def drainP (P : List Int) (root : Nat) (ns : List Sn) (v : Int) : OutP :=
  if drainErr ns v = 0 then settleP P root (ns.set v.toNat { nd ns v.toNat with dr := true }) v.toNat else (ns, [])
def sendP (P : List Int) (x : Sn) (v : Nat) : List Mg :=
  if x.ph = 1 then downP P x 1 v (x.ep + 1) else if x.ph = 2 then riseP P 2 v (x.ep + 1) else if x.ph = 3 then downP P x 3 v x.ep else []
def repeatP (P : List Int) (ns : List Sn) : List Mg := (List.range ns.length).flatMap fun v => sendP P (nd ns v) v

/-- What always holds. -/
def stg (x : Sn) : Int := 4 * (x.ep : Int) + (if x.ph = 3 then -1 else (x.ph : Int))
structure Rel (p c : Sn) (i : Nat) : Prop where
  r0 : p.ph = 0 → c.ph = 0 ∧ c.ep = p.ep
  r1 : p.ph = 1 → c.ph ≤ 2 ∧ c.ep = p.ep ∧ (i ∈ p.an → c.ph = 2)
  r2 : p.ph = 2 → c.ph = 2 ∧ c.ep = p.ep
  r3 : p.ph = 3 → ((c.ph = 2 ∧ c.ep + 1 = p.ep) ∨ ((c.ph = 3 ∨ c.ph = 0) ∧ c.ep = p.ep)) ∧ (i ∈ p.an → c.ph = 0 ∧ c.ep = p.ep)
structure Wf (P : List Int) (x : Sn) (v : Nat) : Prop where
  ph : x.ph ≤ 3
  nd : x.an.Nodup
  sub : ∀ i, i ∈ x.an → i ∈ kids P v
  c1 : x.ph = 1 → x.an.length ≠ (kids P v).length
  c3 : x.ph = 3 → x.dr = true → x.an.length ≠ (kids P v).length
  c2 : v = 0 → x.ph ≠ 2
  e3 : x.ph = 3 → 1 ≤ x.ep
structure Tree (P : List Int) : Prop where
  pos : 0 < P.length
  root : P[0]? = some (-1)
  up : ∀ i, 0 < i → i < P.length → ∃ p : Nat, p < i ∧ P[i]? = some (p : Int)
theorem Tree.lt {P : List Int} (h : Tree P) {v i : Nat} (hi : i ∈ kids P v) : v < i := by
  obtain ⟨h1, h2⟩ := mem_kids.1 hi
  rcases Nat.eq_zero_or_pos i with h0 | h0
  · subst h0; rw [h.root] at h2; injection h2 with h2; omega
  · obtain ⟨p, hp, he⟩ := h.up i h0 h1
    rw [he] at h2; injection h2 with h2; omega
theorem Tree.par {P : List Int} (h : Tree P) {v i : Nat} (hi : i ∈ kids P v) : v < P.length ∧ parI P i = v ∧ 0 < i := by
  have h1 := h.lt hi
  obtain ⟨h2, h3⟩ := mem_kids.1 hi
  exact ⟨by omega, by simp [parI, h3], by omega⟩
theorem Tree.uniq {P : List Int} {u v i : Nat} (h1 : i ∈ kids P v) (h2 : i ∈ kids P u) : u = v := by
  have a := (mem_kids.1 h1).2
  rw [(mem_kids.1 h2).2] at a
  injection a with a; omega
structure Inv (P : List Int) (ns : List Sn) : Prop where
  len : ns.length = P.length
  wf : ∀ v, v < P.length → Wf P (nd ns v) v
  rel : ∀ v i, i ∈ kids P v → Rel (nd ns v) (nd ns i) i
def MOk (P : List Int) (ns : List Sn) (m : Mg) : Prop := 0 ≤ m.frm ∧ m.frm < P.length ∧ 4 * (m.ep - 1) + m.kind ≤ stg (nd ns m.frm.toNat)
/-- One step: every node's stage grows, no epoch grows by more than one. -/
structure Le (ns ns' : List Sn) : Prop where
  len : ns'.length = ns.length
  st : ∀ v, stg (nd ns v) ≤ stg (nd ns' v)
  ep0 : ∀ v, (nd ns v).ep ≤ (nd ns' v).ep
  ep1 : ∀ v, (nd ns' v).ep ≤ (nd ns v).ep + 1
theorem Le.refl (ns : List Sn) : Le ns ns := ⟨rfl, fun _ => Int.le_refl _, fun _ => Nat.le_refl _, fun _ => Nat.le_succ _⟩
theorem MOk.le {P : List Int} {ns ns' : List Sn} {m : Mg} (h : MOk P ns m) (hl : ∀ v, stg (nd ns v) ≤ stg (nd ns' v)) : MOk P ns' m := ⟨h.1, h.2.1, Int.le_trans h.2.2 (hl _)⟩
theorem sub_full {l m : List Nat} (hl : l.Nodup) (hs : ∀ i, i ∈ l → i ∈ m) (hm : m.Nodup) (hle : m.length ≤ l.length) : ∀ i, i ∈ m → i ∈ l := by
  induction l generalizing m with
  | nil => simp at hle; subst hle; intro i hi; exact hi
  | cons a l ih =>
    intro i hi
    by_cases e : i = a
    · subst e; exact List.mem_cons_self
    · have ha := hs a List.mem_cons_self
      rw [List.nodup_cons] at hl
      have h1 := ih (m := m.erase a) hl.2 (fun j hj => (hm.mem_erase_iff).2 ⟨fun e => by subst e; exact hl.1 hj, hs j (List.mem_cons_of_mem _ hj)⟩) (hm.erase a) (by rw [List.length_erase_of_mem ha]; simp at hle; omega)
      exact List.mem_cons_of_mem _ (h1 i ((hm.mem_erase_iff).2 ⟨e, hi⟩))
theorem sub_len {l m : List Nat} (hl : l.Nodup) (hs : ∀ i, i ∈ l → i ∈ m) : l.length ≤ m.length := by
  induction l generalizing m with
  | nil => simp
  | cons a l ih =>
    rw [List.nodup_cons] at hl
    have ha := hs a List.mem_cons_self
    have h1 := ih (m := m.erase a) hl.2 (fun j hj => (List.mem_erase_of_ne (fun e => by subst e; exact hl.1 hj)).2 (hs j (List.mem_cons_of_mem _ hj)))
    rw [List.length_erase_of_mem ha] at h1
    have := List.length_pos_of_mem ha
    simp; omega
theorem addA_nodup {l : List Nat} {k : Nat} (h : l.Nodup) : (addA l k).Nodup := by
  unfold addA; split
  · exact h
  · rename_i hk; exact List.nodup_cons.2 ⟨hk, h⟩
theorem mem_addA {l : List Nat} {k i : Nat} : i ∈ addA l k ↔ i = k ∨ i ∈ l := by
  unfold addA; split
  · rename_i hk; constructor
    · exact .inr
    · rintro (rfl | h); exact hk; exact h
  · simp
theorem Wf.full {P : List Int} {x : Sn} {v : Nat} (hn : x.an.Nodup) (hs : ∀ i, i ∈ x.an → i ∈ kids P v) (h : x.an.length = (kids P v).length) : ∀ i, i ∈ kids P v → i ∈ x.an :=
  sub_full hn hs (kids_nodup P v) (by omega)
theorem Inv.set {P : List Int} {ns : List Sn} (h : Inv P ns) (ht : Tree P) {v : Nat} (hv : v < P.length) {x : Sn} (hw : Wf P x v) (hk : ∀ i, i ∈ kids P v → Rel x (nd ns i) i) (hp : ∀ p, v ∈ kids P p → Rel (nd ns p) x v) : Inv P (ns.set v x) := by
  have hv' : v < ns.length := by rw [h.len]; exact hv
  refine ⟨by rw [List.length_set, h.len], fun u hu => ?_, fun u i hi => ?_⟩
  · rw [nd_set hv']
    by_cases e : u = v
    · subst e; rw [if_pos rfl]; exact hw
    · rw [if_neg e]; exact h.wf u hu
  · rw [nd_set hv', nd_set hv']
    have hlt := ht.lt hi
    by_cases e : u = v
    · subst e; rw [if_pos rfl, if_neg (by omega)]; exact hk i hi
    · rw [if_neg e]
      by_cases e2 : i = v
      · subst e2; rw [if_pos rfl]; exact hp u hi
      · rw [if_neg e2]; exact h.rel u i hi
theorem le_set {ns : List Sn} {v : Nat} (hv : v < ns.length) {x : Sn} (h1 : stg (nd ns v) ≤ stg x) (h2 : (nd ns v).ep ≤ x.ep) (h3 : x.ep ≤ (nd ns v).ep + 1) : Le ns (ns.set v x) := by
  refine ⟨by rw [List.length_set], fun u => ?_, fun u => ?_, fun u => ?_⟩ <;> rw [nd_set hv] <;> by_cases e : u = v
  · subst e; rw [if_pos rfl]; exact h1
  · rw [if_neg e]; exact Int.le_refl _
  · subst e; rw [if_pos rfl]; exact h2
  · rw [if_neg e]; exact Nat.le_refl _
  · subst e; rw [if_pos rfl]; exact h3
  · rw [if_neg e]; omega
end Go.Proofs.Ytibmbhnpmfgclaa
