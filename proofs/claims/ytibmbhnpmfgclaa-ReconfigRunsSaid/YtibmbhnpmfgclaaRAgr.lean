/- Reconfig: a node rests only after it has been drained in its epoch. -/
import Derived.Test.YtibmbhnpmfgclaaRLaw
namespace Go.Proofs.Ytibmbhnpmfgclaa
set_option linter.unusedVariables false
set_option linter.unusedSimpArgs false
open Go.RowKit Go.Maps
/-- D: the epochs in which the nodes were drained. -/
def DI (D : Nat → Int) (ns : List Sn) : Prop := ∀ v, ((nd ns v).dr = true → D v = (nd ns v).ep) ∧ ((nd ns v).ph = 0 → D v = (nd ns v).ep)
section
variable {P : List Int} {ns ns' : List Sn} {D : Nat → Int}
theorem di_good {o : OutP} (h : DI D ns) (hg : Good P ns o) : DI D o.1 := fun v => by
  obtain ⟨h1, h2⟩ := h v
  obtain ⟨t1, t2⟩ := hg.tr v
  refine ⟨fun e => ?_, fun e => ?_⟩
  · obtain ⟨a, b⟩ := t1 e; rw [b]; exact h1 a
  · obtain ⟨a, b⟩ := t2 e; rw [a]
    rcases b with b | b
    · exact h2 b
    · exact h1 b
theorem di_drain (h : DI D ns) (hI : Inv P ns) (ht : Tree P) {v : Int} (hv : drainErr ns v = 0 → D v.toNat = (nd ns v.toNat).ep) : DI D (drainP P 0 ns v).1 := by
  unfold drainP
  by_cases he : drainErr ns v = 0
  · obtain ⟨v0, hvl, hph⟩ := drain_ok he
    rw [if_pos he]
    have hg := drain_good hI ht (by rw [← hI.len]; exact hvl) hph
    intro u
    by_cases e : u = v.toNat
    · subst e
      rw [hg.ep]
      exact ⟨fun _ => hv he, fun _ => hv he⟩
    · rw [hg.tr u e]; exact h u
  · rw [if_neg he]; exact h
theorem di_step {fly fly' : List Mg} {kd n : Int} (h : DI D ns) (hI : Inv P ns) (ht : Tree P) (hf : ∀ m, m ∈ fly → MOk P ns m) (hs : StpR P 0 ns fly kd n ns' fly') (hv : kd = 4 → drainErr ns n = 0 → D n.toNat = (nd ns n.toNat).ep) : DI D ns' := by
  rcases hs with ⟨fly1, l, hM, _⟩ | ⟨_, _, _, rfl, _⟩
  · have ho : ∀ o : OutP, (ns', l) = o → DI D o.1 → DI D ns' := fun o e hh => by subst e; exact hh
    rcases hM with ⟨_, rfl, e⟩ | ⟨i, m, hi, ⟨_, rfl, e⟩ | ⟨_, rfl, e⟩ | ⟨_, rfl, e⟩⟩ | ⟨hk, rfl, e⟩ | ⟨_, rfl, e⟩ | ⟨_, rfl, e⟩
    · exact ho _ e (di_good h (begin_good hI ht))
    · exact ho _ e (di_good h (recv_good hI ht m (hf m (List.mem_of_getElem? hi))))
    · exact ho _ e (di_good h (recv_good hI ht m (hf m (List.mem_of_getElem? hi))))
    · exact ho _ e h
    · exact ho _ e (di_drain h hI ht (hv hk))
    · exact ho _ e h
    · exact ho _ e h
  · exact h
theorem di0 (n : Nat) : DI (fun _ => 0) (List.replicate n sn0) := fun v => by rw [nd_rep]; exact ⟨fun e => by simp [sn0] at e, fun _ => rfl⟩
end
def dlD (dl : List Int) (v : Nat) : Int := dl.getD v 0
theorem dl_set {dl : List Int} {k : Nat} (hk : k < dl.length) (x : Int) (v : Nat) : dlD (dl.set k x) v = if v = k then x else dlD dl v := by
  unfold dlD
  simp only [List.getD_eq_getElem?_getD, List.getElem?_set]
  by_cases e : k = v
  · subst e; simp [hk]
  · rw [if_neg e, if_neg (fun h => e h.symm)]
theorem dl_get {dl : List Int} {v : Nat} (hv : v < dl.length) : dl[v]? = some (dlD dl v) := by simp [dlD, hv]
theorem di_mark {dl : List Int} {ns : List Sn} {k : Nat} (h : DI (dlD dl) ns) (hk : k < dl.length) (h3 : (nd ns k).ph = 3) : DI (dlD (dl.set k ((nd ns k).ep : Int))) ns := fun v => by
  rw [dl_set hk]
  obtain ⟨h1, h2⟩ := h v
  by_cases e : v = k
  · subst e; rw [if_pos rfl]; exact ⟨fun _ => rfl, fun _ => rfl⟩
  · rw [if_neg e]; exact ⟨h1, h2⟩
section
variable {w0 w w' : World} {L : Lay} {xs : List Nat} {k : Nat} {M : List Nm} {fly : List Mg} {A : Option Addr} {kap : Nat}
theorem sl_blk (h : ChAt w L M) {g : Nat} {t : TypeId} {cs : Array Value} (hb : Blk w g t cs) (ht : t ≠ 89) : ¬ SL L M g := fun hs => by
  rcases hs with e | ⟨m, hm, e⟩
  · exact Blk.ne_ hb h.nodes ht e
  · exact (h.mlt m hm g e).2 _ _ hb
/-- A block of ints of the call's own may be written, where none of the change's rows lies there. -/
theorem ChAt.keep3 {g : Nat} {cs : Array Value} (h : ChAt w L M) (hb : Blk w g 3 cs) (k : OnlyP (fun x => x = g) w w') (hp : ob L.Ap ≠ some g) (hk : ∀ (v : Nat) (pt : Pt), L.pts[v]? = some pt → ob pt.A ≠ some g) : ChAt w' L M := by
  have hm : ∀ m, m ∈ M → ∀ g', m.mb = some g' → g' ≠ g := fun m hm g' hg e => by subst e; exact (h.mlt m hm _ hg).2 _ _ hb
  refine ⟨⟨h.fix.box.only k (Blk.ne_ h.fix.box hb (by decide)), own_keep h.fix.par k (fun g' hg e => by subst e; rw [ob_eq] at hg; exact hp hg), h.fix.ch.only k (Blk.ne_ h.fix.ch hb (by decide)), h.fix.chl, fun v pt hv => ⟨own_keep (h.fix.chk v pt hv).1 k (fun g' hg e => by subst e; rw [ob_eq] at hg; exact hk v pt hv hg), (h.fix.chk v pt hv).2⟩, h.fix.rt, h.fix.sm⟩, h.nodes.only k (Blk.ne_ h.nodes hb (by decide)), h.len, fun m hmm hph => ?_, fun m hmm g' hg => ?_, h.dist⟩
  · obtain ⟨g', h1, h2⟩ := h.maps m hmm hph
    exact ⟨g', h1, MapAt.only h2 k (hm m hmm g' h1)⟩
  · obtain ⟨h1, h2⟩ := h.mlt m hmm g' hg
    refine ⟨Nat.lt_of_lt_of_le h1 k.size, fun t cs' hb' => h2 t cs' ?_⟩
    unfold Blk at hb' ⊢
    rw [← k.block g' h1 (hm m hmm g' hg)]; exact hb'
/-- Begin where the root does not rest. -/
theorem St.begin_ {e : Ending} (h : St w0 L xs k M fly A kap w) (h0 : (nd (sns M) L.root).ph ≠ 0) (hu : Upd2 w L M (beginP L.P L.root (sns M)) (if (nd (sns M) L.root).ph = 0 then 0 else 6) e w') : ∃ A2 k2 M', e = .returned (.tuple #[.slice A2 0 k2, .int .i64 6]) ∧ sns M' = sns M ∧ St w0 L xs (k + 1) M' fly A kap w' ∧ OnlyP (SL L M) w w' := by
  have hb : beginP L.P L.root (sns M) = (sns M, []) := by unfold beginP; rw [if_neg h0]
  rw [hb, if_neg h0] at hu
  obtain ⟨A2, k2, M', rfl, hs, hC, ho, hon, hsl⟩ := Upd2.get hu
  exact ⟨A2, k2, M', rfl, hs, h.upd hC (by rw [hs]; exact h.inv) (by rw [hs]; exact Le.refl _) hon hsl, hon⟩
theorem St.drawn (h : St w0 L xs k M fly A kap w) (n : Nat) : St w0 L xs k M fly A kap (w.drewN n) := h.new_ (below_dN w n)
end
end Go.Proofs.Ytibmbhnpmfgclaa
