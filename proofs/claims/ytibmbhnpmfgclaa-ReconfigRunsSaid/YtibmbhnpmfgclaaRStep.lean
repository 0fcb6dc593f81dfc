/- Reconfig: stores into one node, and the walks of commit, prepared, prepare and settle. -/
import Derived.Test.YtibmbhnpmfgclaaRDown
namespace Go.Proofs.Ytibmbhnpmfgclaa
set_option linter.unusedVariables false
set_option linter.unusedSimpArgs false
open Go.RowKit Go.Maps
theorem get_self {α : Type} {l : List α} {v : Nat} (h : v < l.length) (x : α) : (l.set v x)[v]? = some x := by simp [h]
theorem made0 (w : World) : MapI Try.prog 3 (w.alloc (.map #[] 0)) w.heap.size 0 (anF []) := (MapI.made w Try.prog 3).cast rfl fun x => by simp [anF]
section
variable {w : World} {L : Lay} {M : List Nm} {v : Nat} {m : Nm}
/-- What the four fields hold behind the stores. -/
def nmv (ep ph : Nat) (an : List Nat) (dr : Bool) (mb : Option Nat) : Nm := ⟨⟨ep, ph, an, dr⟩, mb⟩
theorem vlt (h : ChAt w L M) (hv : M[v]? = some m) : v < M.length := (List.getElem?_eq_some_iff.1 hv).1
theorem nmem (h : ChAt w L M) (hv : M[v]? = some m) : m ∈ M := List.mem_of_getElem? hv
theorem mb_ne (h : ChAt w L M) (hv : M[v]? = some m) {g : Nat} (hg : m.mb = some g) : g ≠ L.gN := fun e => by
  subst e; exact (h.mlt m (nmem h hv) _ hg).2 _ _ h.nodes
theorem mb_kept (h : ChAt w L M) (hv : M[v]? = some m) {w' : World} (k : OnlyP (fun g => g = L.gN) w w') : ∀ g, m.mb = some g → g < w'.heap.size ∧ ∀ t cs, ¬ Blk w' g t cs := fun g hg => by
  obtain ⟨h1, h2⟩ := h.mlt m (nmem h hv) g hg
  refine ⟨Nat.lt_of_lt_of_le h1 k.size, fun t cs hb => h2 t cs ?_⟩
  unfold Blk at hb ⊢
  rw [← k.block g h1 (mb_ne h hv hg)]; exact hb
theorem only_gN {w' : World} (k : OnlyP (fun g => g = L.gN) w w') : OnlyP (SL L M) w w' := k.mono fun g hg => .inl hg
theorem kset {w1 : World} (h : OnlyP (fun g => g = L.gN) w w1) (i : Nat) (u : Value) : OnlyP (fun g => g = L.gN) w (w1.setCell ⟨L.gN, i, none⟩ u) := h.set (p := ⟨L.gN, i, none⟩) (.inl rfl) u
/-- One field alone is written. -/
theorem phase_at (h : ChAt w L M) (hv : M[v]? = some m) (ph : Nat) (hph : ph ≠ 1 ∧ ph ≠ 3) :
    ChAt (w.setCell ⟨L.gN, v * 4 + 1, none⟩ (.int .i64 ph)) L (M.set v ⟨{ m.x with ph := ph }, m.mb⟩) ∧ OnlyP (SL L M) w (w.setCell ⟨L.gN, v * 4 + 1, none⟩ (.int .i64 ph)) := by
  have k : OnlyP (fun g => g = L.gN) w (w.setCell ⟨L.gN, v * 4 + 1, none⟩ (.int .i64 ph)) := kset (OnlyP.refl _ _) _ _
  refine ⟨h.put hv (k.mono fun g hg => .inl hg) (h.nodes.setj smcell_len (by omega) hv (by omega) rfl) (fun hp => ?_) (.inl rfl) (mb_kept h hv k), only_gN k⟩
  exfalso
  rcases hp with e | e
  · exact hph.1 e
  · exact hph.2 e
theorem drain_at (h : ChAt w L M) (hv : M[v]? = some m) (b : Bool) :
    ChAt (w.setCell ⟨L.gN, v * 4 + 3, none⟩ (.bool b)) L (M.set v ⟨{ m.x with dr := b }, m.mb⟩) ∧ OnlyP (SL L M) w (w.setCell ⟨L.gN, v * 4 + 3, none⟩ (.bool b)) := by
  have k : OnlyP (fun g => g = L.gN) w (w.setCell ⟨L.gN, v * 4 + 3, none⟩ (.bool b)) := kset (OnlyP.refl _ _) _ _
  refine ⟨h.put hv (k.mono fun g hg => .inl hg) (h.nodes.setj smcell_len (by omega) hv (by omega) rfl) (fun hp => ?_) (.inl rfl) (mb_kept h hv k), only_gN k⟩
  obtain ⟨g, h1, h2⟩ := h.maps m (nmem h hv) hp
  exact ⟨g, h1, MapAt.only h2 k (mb_ne h hv h1)⟩
theorem size_set (w : World) (p : Addr) (u : Value) : (w.setCell p u).heap.size = w.heap.size := by simp [World.setCell]
theorem made_at {w : World} {n : Nat} (h : w.heap.size = n) : MapI Try.prog 3 (w.alloc (.map #[] 0)) n 0 (anF []) := h ▸ made0 w
def wPrep (w : World) (L : Lay) (v : Nat) : World := ((w.setCell ⟨L.gN, v * 4 + 1, none⟩ (.int .i64 1)).setCell ⟨L.gN, v * 4 + 2, none⟩ (.map (some w.heap.size))).alloc (.map #[] 0)
theorem prepare_at (h : ChAt w L M) (hv : M[v]? = some m) : ChAt (wPrep w L v) L (M.set v ⟨{ m.x with ph := 1, an := [] }, some w.heap.size⟩) ∧ OnlyP (SL L M) w (wPrep w L v) := by
  have hvl := vlt h hv
  have hz := h.nodes.lt
  have k : OnlyP (fun g => g = L.gN) w (wPrep w L v) := (kset (kset (OnlyP.refl _ _) _ _) _ _).alloc _
  have hmap : MapI Try.prog 3 (wPrep w L v) w.heap.size 0 (anF []) := made_at (by rw [size_set, size_set])
  have h1 := (h.nodes.setj smcell_len (by omega) hv (j := 1) (by omega) (y := ⟨{ m.x with ph := 1, an := [] }, m.mb⟩) (a := .int .i64 1) rfl).setj smcell_len (by omega) (get_self hvl _) (j := 2) (by omega) (y := ⟨{ m.x with ph := 1, an := [] }, some w.heap.size⟩) (a := .map (some w.heap.size)) rfl
  rw [List.set_set] at h1
  refine ⟨h.put hv (k.mono fun g hg => .inl hg) (h1.alloc _) (fun hp => ⟨_, rfl, hmap⟩) (.inr (.inr ⟨_, rfl, Nat.le_refl _⟩)) (fun g hg => ?_), only_gN k⟩
  injection hg with hg
  subst hg
  exact ⟨MapAt.lt hmap, map_notblk hmap⟩
def wComm (w : World) (L : Lay) (v : Nat) (ep : Int) : World := ((((w.setCell ⟨L.gN, v * 4, none⟩ (.int .i64 (ep + 1))).setCell ⟨L.gN, v * 4 + 1, none⟩ (.int .i64 3)).setCell ⟨L.gN, v * 4 + 2, none⟩ (.map (some w.heap.size))).setCell ⟨L.gN, v * 4 + 3, none⟩ (.bool false)).alloc (.map #[] 0)
theorem commit_at (h : ChAt w L M) (hv : M[v]? = some m) : ChAt (wComm w L v m.x.ep) L (M.set v ⟨⟨m.x.ep + 1, 3, [], false⟩, some w.heap.size⟩) ∧ OnlyP (SL L M) w (wComm w L v m.x.ep) := by
  have hvl := vlt h hv
  have hz := h.nodes.lt
  have k : OnlyP (fun g => g = L.gN) w (wComm w L v m.x.ep) := (kset (kset (kset (kset (OnlyP.refl _ _) _ _) _ _) _ _) _ _).alloc _
  have hmap : MapI Try.prog 3 (wComm w L v m.x.ep) w.heap.size 0 (anF []) := made_at (by rw [size_set, size_set, size_set, size_set])
  have h1 := (h.nodes.setj smcell_len (by omega) hv (j := 0) (by omega) (y := ⟨{ m.x with ep := m.x.ep + 1 }, m.mb⟩) (a := .int .i64 ((m.x.ep : Int) + 1)) rfl).setj smcell_len (by omega) (get_self hvl _) (j := 1) (by omega) (y := ⟨{ m.x with ep := m.x.ep + 1, ph := 3 }, m.mb⟩) (a := .int .i64 3) rfl
  rw [List.set_set] at h1
  have h2 := h1.setj smcell_len (by omega) (get_self hvl _) (j := 2) (by omega) (y := ⟨⟨m.x.ep + 1, 3, [], m.x.dr⟩, some w.heap.size⟩) (a := .map (some w.heap.size)) rfl
  rw [List.set_set] at h2
  have h3 := h2.setj smcell_len (by omega) (get_self hvl _) (j := 3) (by omega) (y := ⟨⟨m.x.ep + 1, 3, [], false⟩, some w.heap.size⟩) (a := .bool false) rfl
  rw [List.set_set] at h3
  refine ⟨h.put hv (k.mono fun g hg => .inl hg) (h3.alloc _) (fun hp => ⟨_, rfl, hmap⟩) (.inr (.inr ⟨_, rfl, Nat.le_refl _⟩)) (fun g hg => ?_), only_gN k⟩
  injection hg with hg
  subst hg
  exact ⟨MapAt.lt hmap, map_notblk hmap⟩
def wSet (w : World) (L : Lay) (v : Nat) : World := ((w.setCell ⟨L.gN, v * 4 + 1, none⟩ (.int .i64 0)).setCell ⟨L.gN, v * 4 + 2, none⟩ (.map none)).setCell ⟨L.gN, v * 4 + 3, none⟩ (.bool false)
theorem settle_at (h : ChAt w L M) (hv : M[v]? = some m) : ChAt (wSet w L v) L (M.set v ⟨⟨m.x.ep, 0, [], false⟩, none⟩) ∧ OnlyP (SL L M) w (wSet w L v) := by
  have hvl := vlt h hv
  have k : OnlyP (fun g => g = L.gN) w (wSet w L v) := kset (kset (kset (OnlyP.refl _ _) _ _) _ _) _ _
  have h1 := (h.nodes.setj smcell_len (by omega) hv (j := 1) (by omega) (y := ⟨⟨m.x.ep, 0, [], m.x.dr⟩, m.mb⟩) (a := .int .i64 0) rfl).setj smcell_len (by omega) (get_self hvl _) (j := 2) (by omega) (y := ⟨⟨m.x.ep, 0, [], m.x.dr⟩, none⟩) (a := .map none) rfl
  rw [List.set_set] at h1
  have h2 := h1.setj smcell_len (by omega) (get_self hvl _) (j := 3) (by omega) (y := ⟨⟨m.x.ep, 0, [], false⟩, none⟩) (a := .bool false) rfl
  rw [List.set_set] at h2
  exact ⟨h.put hv (k.mono fun g hg => .inl hg) h2 (fun hp => by rcases hp with e | e <;> simp at e) (.inr (.inl rfl)) (fun g hg => by cases hg), only_gN k⟩
/-- A call that only makes memory, in the place of the last step. -/
theorem Upd.last {w1 : World} {ns : List Sn} {l : List Mg} {M1 : List Nm} (h : ChAt w1 L M1) (hs : sns M1 = ns) (k : OnlyP (SL L M) w w1) (hg : ∀ g, SL L M1 g → SL L M g ∨ w.heap.size ≤ g) {w' : World} {A : Option Addr} {kap : Nat}
    (ho : w'.ownsRow w1.heap.size 39 4 (.slice A l.length kap) l.length (l.flatMap mcell)) (hb : Below w1.heap.size w1 w') : Upd w L M (ns, l) (.returned (.slice A l.length kap)) w' :=
  ⟨M1, A, kap, rfl, hs, h.new_ hb, own_base ho k.size, k.new hb, hg⟩
end
def MaxEp : Nat := 1000000000000
set_option maxHeartbeats 4000000 in
theorem commit_c (w : World) (L : Lay) (M : List Nm) (v : Nat) (m : Nm) (h : ChAt w L M) (hv : M[v]? = some m) (he : m.x.ep ≤ MaxEp) :
    Calls Try.prog 65 #[.pointer (some ⟨L.b, 0, none⟩), .int .i64 v] w (Upd w L M (commitP L.P (sns M) v)) := by
  unfold MaxEp at he
  obtain ⟨pt, hpt, hN⟩ := h.node hv
  obtain ⟨h1, h2⟩ := commit_at h hv
  have hvl := vlt h hv
  have HP := Kept.mk (commit_at h hv)
  unfold wComm at HP
  have HS : Kept (sns (M.set v ⟨⟨m.x.ep + 1, 3, [], false⟩, some w.heap.size⟩) = (sns M).set v ⟨m.x.ep + 1, 3, [], false⟩) := ⟨sns_set _ _ _⟩
  have HSL := Kept.mk (fun g => sl_set (L := L) (m' := ⟨⟨m.x.ep + 1, 3, [], false⟩, some w.heap.size⟩) (B := w.heap.size) hv (.inr (.inr ⟨_, rfl, Nat.le_refl _⟩)) g)
  have HG := Kept.mk (get_self hvl (⟨⟨m.x.ep + 1, 3, [], false⟩, some w.heap.size⟩ : Nm))
  have hx : commitP L.P (sns M) v = ((sns M).set v ⟨m.x.ep + 1, 3, [], false⟩, downP L.P ⟨m.x.ep + 1, 3, [], false⟩ 3 v ((m.x.ep : Int) + 1)) := by unfold commitP; rw [sns_get hv]
  rw [hx]
  obtain ⟨b0, b1, b2, b3, c0, n0, n1, n2, n3, f, vl, sm, zb, zC, zN, pl, nb, nc⟩ := hN
  have f0 := f (v * 4)
  have f1 := f (v * 4 + 1)
  have f2 := f (v * 4 + 2)
  have f3 := f (v * 4 + 3)
  have hmm := @run_makeMap Try.prog
  clear h hv hpt h1 h2 hx hvl f
  go_enter Try.func65, Try.ntmps65
  go_wp2_with (go_at_call 48; refine (down_c _ L _ v _ 3 ((m.x.ep : Int) + 1) HP.out.1 HG.out (.inr rfl)).mono ?_; rintro e w1 ⟨A, kap, rfl, ho, hb⟩; have HR := Kept.mk (Upd.last HP.out.1 HS.out HP.out.2 HSL.out ho hb); clear ho hb)
  go_ret
  exact HR.out
theorem Upd.ret {w w' : World} {L : Lay} {M : List Nm} {o : OutP} {e : Ending} (h : Upd w L M o e w') : ∃ A kap, e = .returned (.slice A o.2.length kap) ∧ Upd w L M o (.returned (.slice A o.2.length kap)) w' := by
  obtain ⟨M', A, kap, rfl, h2⟩ := h
  exact ⟨A, kap, rfl, M', A, kap, rfl, h2⟩
theorem Upd.nil_ {w w1 : World} {L : Lay} {M M1 : List Nm} {ns : List Sn} (h : ChAt w1 L M1) (hs : sns M1 = ns) (k : OnlyP (SL L M) w w1) (hg : ∀ g, SL L M1 g → SL L M g ∨ w.heap.size ≤ g) : Upd w L M (ns, []) (.returned (.slice none 0 0)) w1 :=
  ⟨M1, none, 0, rfl, hs, h, World.ownsRow_nil _ _ _ _, k, hg⟩
theorem below_dN (w : World) (n : Nat) : Below w.heap.size w (w.drewN n) := dN (Below.refl _ _) n
theorem eqN_yes {a b : Nat} (h : a = b) : ((a : Int) == (b : Int)) = true := by simp [h]
theorem eqN_no {a b : Nat} (h : a ≠ b) : ((a : Int) == (b : Int)) = false := by simp; omega
set_option maxHeartbeats 4000000 in
theorem prepared_c (w : World) (L : Lay) (M : List Nm) (v : Nat) (m : Nm) (h : ChAt w L M) (hv : M[v]? = some m) (he : m.x.ep ≤ MaxEp) :
    Calls Try.prog 64 #[.pointer (some ⟨L.b, 0, none⟩), .int .i64 v] w (Upd w L M (preparedP L.P L.root (sns M) v)) := by
  have HC := Kept.mk (commit_c w L M v m h hv he)
  unfold MaxEp at he
  obtain ⟨pt, hpt, hN⟩ := h.node hv
  have HP := Kept.mk (phase_at h hv 2 (by omega))
  have HS : Kept (sns (M.set v ⟨{ m.x with ph := 2 }, m.mb⟩) = (sns M).set v { m.x with ph := 2 }) := ⟨sns_set _ _ _⟩
  have HSL := Kept.mk (fun g => sl_set (L := L) (m' := ⟨{ m.x with ph := 2 }, m.mb⟩) (B := w.heap.size) hv (.inl rfl) g)
  have HG := Kept.mk (get_self (vlt h hv) (⟨{ m.x with ph := 2 }, m.mb⟩ : Nm))
  have hx : v ≠ L.root → preparedP L.P L.root (sns M) v = ((sns M).set v { m.x with ph := 2 }, riseP L.P 2 v ((m.x.ep : Int) + 1)) := fun e => by unfold preparedP; rw [if_neg e, sns_get hv]
  obtain ⟨b0, b1, b2, b3, c0, n0, n1, n2, n3, f, vl, sm, zb, zC, zN, pl, nb, nc⟩ := hN
  have f1 := f (v * 4 + 1)
  by_cases hr : v = L.root
  · have hq := eqN_yes hr
    have HX : Kept (preparedP L.P L.root (sns M) v = commitP L.P (sns M) v) := ⟨by unfold preparedP; rw [if_pos hr]⟩
    rw [HX.out]
    clear h hv hpt hx f hr
    go_enter Try.func64, Try.ntmps64
    go_wp2_with (go_at_call 65; refine HC.out.mono ?_; rintro e w1 hu; obtain ⟨A, kap, rfl, hu⟩ := Upd.ret hu; have HU := Kept.mk hu; clear hu)
    go_ret
    exact HU.out
  · have hq := eqN_no hr
    rw [hx hr]
    clear h hv hpt hx f hr HC
    go_enter Try.func64, Try.ntmps64
    go_wp2_with (go_at_call 49; refine (rise_c _ L _ v _ 2 ((m.x.ep : Int) + 1) HP.out.1 HG.out).mono ?_; rintro e w1 ⟨A, kap, rfl, ho, hb⟩; have HR := Kept.mk (Upd.last HP.out.1 HS.out HP.out.2 HSL.out ho hb); clear ho hb)
    go_ret
    exact HR.out
set_option maxHeartbeats 4000000 in
theorem prepare_c (w : World) (L : Lay) (M : List Nm) (v : Nat) (m : Nm) (h : ChAt w L M) (hv : M[v]? = some m) (he : m.x.ep ≤ MaxEp) :
    Calls Try.prog 41 #[.pointer (some ⟨L.b, 0, none⟩), .int .i64 v] w (Upd w L M (prepareP L.P L.root (sns M) v)) := by
  have HE := Kept.mk he
  unfold MaxEp at he
  obtain ⟨pt, hpt, hN⟩ := h.node hv
  have HP := Kept.mk (prepare_at h hv)
  have HS : Kept (sns (M.set v ⟨{ m.x with ph := 1, an := [] }, some w.heap.size⟩) = (sns M).set v { m.x with ph := 1, an := [] }) := ⟨sns_set _ _ _⟩
  have HSL := Kept.mk (fun g => sl_set (L := L) (m' := ⟨{ m.x with ph := 1, an := [] }, some w.heap.size⟩) (B := w.heap.size) hv (.inr (.inr ⟨_, rfl, Nat.le_refl _⟩)) g)
  have HG := Kept.mk (get_self (vlt h hv) (⟨{ m.x with ph := 1, an := [] }, some w.heap.size⟩ : Nm))
  unfold wPrep at HP
  obtain ⟨b0, b1, b2, b3, c0, n0, n1, n2, n3, f, vl, sm, zb, zC, zN, pl, nb, nc⟩ := hN
  have f1 := f (v * 4 + 1)
  have f2 := f (v * 4 + 2)
  have hmm := @run_makeMap Try.prog
  by_cases hk : kids L.P v = []
  · have hx : prepareP L.P L.root (sns M) v = preparedP L.P L.root ((sns M).set v { m.x with ph := 1, an := [] }) v := by unfold prepareP; rw [if_pos hk, sns_get hv]
    rw [hx]
    have HF : Kept (fullB L.P { m.x with ph := 1, an := [] } v = true) := ⟨by simp [fullB, hk]⟩
    clear h hv hpt hx f hk
    go_enter Try.func41, Try.ntmps41
    go_wp2_with (first | (go_at_call 63; refine (complete_c _ L _ v _ HP.out.1 HG.out (.inl rfl)).mono ?_; rintro e w1 ⟨rfl, n, rfl⟩; rw [HF.out]; have HP2 := Kept.mk (HP.out.1.new_ (below_dN _ n)); have HQ2 := Kept.mk (HP.out.2.new (below_dN _ n))) | (go_at_call 64; refine (prepared_c _ L _ v _ HP2.out HG.out HE.out).mono ?_; rintro e w1 hu; rw [HS.out] at hu; obtain ⟨A, kap, rfl, hu2⟩ := Upd.ret (Upd.after hu HQ2.out HSL.out); have HU := Kept.mk hu2; clear hu hu2))
    go_ret
    exact HU.out
  · have hx : prepareP L.P L.root (sns M) v = ((sns M).set v { m.x with ph := 1, an := [] }, downP L.P { m.x with ph := 1, an := [] } 1 v ((m.x.ep : Int) + 1)) := by unfold prepareP; rw [if_neg hk, sns_get hv]
    rw [hx]
    have HF : Kept (fullB L.P { m.x with ph := 1, an := [] } v = false) := ⟨by simp [fullB]; exact fun e => hk (List.length_eq_zero_iff.1 e.symm)⟩
    clear h hv hpt hx f hk
    go_enter Try.func41, Try.ntmps41
    go_wp2_with (first | (go_at_call 63; refine (complete_c _ L _ v _ HP.out.1 HG.out (.inl rfl)).mono ?_; rintro e w1 ⟨rfl, n, rfl⟩; rw [HF.out]; have HP2 := Kept.mk (HP.out.1.new_ (below_dN _ n)); have HQ2 := Kept.mk (HP.out.2.new (below_dN _ n))) | (go_at_call 48; refine (down_c _ L _ v _ 1 ((m.x.ep : Int) + 1) HP2.out HG.out (.inl rfl)).mono ?_; rintro e w1 ⟨A, kap, rfl, ho, hb⟩; have HR := Kept.mk (Upd.last HP2.out HS.out HQ2.out HSL.out ho hb); clear ho hb))
    go_ret
    exact HR.out
theorem sl_same {L : Lay} {M : List Nm} {B : Nat} (g : Nat) (h : SL L M g) : SL L M g ∨ B ≤ g := .inl h
set_option maxHeartbeats 4000000 in
theorem settle_c (w : World) (L : Lay) (M : List Nm) (v : Nat) (m : Nm) (h : ChAt w L M) (hv : M[v]? = some m) (hp : m.x.ph = 3) (he : m.x.ep ≤ MaxEp) :
    Calls Try.prog 47 #[.pointer (some ⟨L.b, 0, none⟩), .int .i64 v] w (Upd w L M (settleP L.P L.root (sns M) v)) := by
  unfold MaxEp at he
  obtain ⟨pt, hpt, hN⟩ := h.node hv
  have HC := Kept.mk (complete_c w L M v m h hv (.inr hp))
  obtain ⟨b0, b1, b2, b3, c0, n0, n1, n2, n3, f, vl, sm, zb, zC, zN, pl, nb, nc⟩ := hN
  have f1 := f (v * 4 + 1)
  have f2 := f (v * 4 + 2)
  have f3 := f (v * 4 + 3)
  have HH := Kept.mk h
  have hxv := sns_get hv
  cases hd : m.x.dr with
  | false =>
    rw [hd] at n3
    have hx : settleP L.P L.root (sns M) v = (sns M, []) := by unfold settleP; rw [hxv, hd]; rfl
    rw [hx]
    clear h hv hpt hx f hxv hp hd n0 n1 n2
    go_enter Try.func47, Try.ntmps47
    go_wp2_with fail
    go_ret
    exact Upd.nil_ HH.out rfl (OnlyP.refl _ _) sl_same
  | true =>
    rw [hd] at n3
    cases hf : fullB L.P m.x v with
    | false =>
      have HF := Kept.mk hf
      have hx : settleP L.P L.root (sns M) v = (sns M, []) := by unfold settleP; rw [hxv, hd, hf]; rfl
      rw [hx]
      clear h hv hpt hx f hxv hp hd n0 n1 n2 hf
      go_enter Try.func47, Try.ntmps47
      go_wp2_with (go_at_call 63; refine HC.out.mono ?_; rintro e w1 ⟨rfl, n, rfl⟩; rw [HF.out])
      go_ret
      exact Upd.nil_ (HH.out.new_ (below_dN _ _)) rfl (OnlyP.of_below (below_dN _ _) _) sl_same
    | true =>
      have HF := Kept.mk hf
      have HSn : ∀ n, Kept (ChAt (wSet (w.drewN n) L v) L (M.set v ⟨⟨m.x.ep, 0, [], false⟩, none⟩) ∧ OnlyP (SL L M) w (wSet (w.drewN n) L v)) := fun n => ⟨by
        obtain ⟨a, b⟩ := settle_at (h.new_ (below_dN w n)) hv
        exact ⟨a, (OnlyP.of_below (below_dN w n) _).trans b⟩⟩
      have HS : Kept (sns (M.set v ⟨⟨m.x.ep, 0, [], false⟩, none⟩) = (sns M).set v ⟨m.x.ep, 0, [], false⟩) := ⟨sns_set _ _ _⟩
      have HSL := Kept.mk (fun g => sl_set (L := L) (m' := ⟨⟨m.x.ep, 0, [], false⟩, none⟩) (B := w.heap.size) hv (.inr (.inl rfl)) g)
      have HG := Kept.mk (get_self (vlt h hv) (⟨⟨m.x.ep, 0, [], false⟩, none⟩ : Nm))
      have hx : settleP L.P L.root (sns M) v = ((sns M).set v ⟨m.x.ep, 0, [], false⟩, if v = L.root then [] else riseP L.P 4 v m.x.ep) := by unfold settleP; rw [hxv, hd, hf]; rfl
      rw [hx]
      by_cases hr : v = L.root
      · have hq := eqN_yes hr
        rw [if_pos hr]
        clear h hv hpt hx f hxv hp hd n0 hf hr
        go_enter Try.func47, Try.ntmps47
        go_wp2_with (go_at_call 63; refine HC.out.mono ?_; rintro e w1 ⟨rfl, n, rfl⟩; rw [HF.out]; have HP := HSn n; unfold wSet at HP)
        go_ret
        exact Upd.nil_ HP.out.1 HS.out HP.out.2 HSL.out
      · have hq := eqN_no hr
        rw [if_neg hr]
        clear h hv hpt hx f hxv hp hd hf hr
        go_enter Try.func47, Try.ntmps47
        go_wp2_with (first | (go_at_call 63; refine HC.out.mono ?_; rintro e w1 ⟨rfl, n, rfl⟩; rw [HF.out]; have HP := HSn n; unfold wSet at HP) | (go_at_call 49; refine (rise_c _ L _ v _ 4 (m.x.ep : Int) HP.out.1 HG.out).mono ?_; rintro e w1 ⟨A, kap, rfl, ho, hb⟩; have HR := Kept.mk (Upd.last HP.out.1 HS.out HP.out.2 HSL.out ho hb); clear ho hb))
        go_ret
        exact HR.out
end Go.Proofs.Ytibmbhnpmfgclaa
