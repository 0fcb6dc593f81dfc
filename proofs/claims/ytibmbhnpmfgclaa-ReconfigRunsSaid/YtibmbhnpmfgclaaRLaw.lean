/- Reconfig: what every law keeps from operation to operation; the statements' tree is accepted. -/
import Derived.Test.YtibmbhnpmfgclaaRFly
import Derived.Test.YtibmbhnpmfgclaaRFin
import Derived.Test.YtibmbhnpmfgclaaRBase
namespace Go.Proofs.Ytibmbhnpmfgclaa
set_option linter.unusedVariables false
set_option linter.unusedSimpArgs false
open Go.RowKit Go.Maps
theorem valid_plan {k : Nat} (h1 : 1 ≤ k) (h2 : k ≤ 10) : validE (planN k) (planC k) = 0 := by
  rcases (by omega : k = 1 ∨ k = 2 ∨ k = 3 ∨ k = 4 ∨ k = 5 ∨ k = 6 ∨ k = 7 ∨ k = 8 ∨ k = 9 ∨ k = 10) with rfl | rfl | rfl | rfl | rfl | rfl | rfl | rfl | rfl | rfl <;> decide +kernel
section
variable {P : List Int}
theorem Tree.inr (h : Tree P) : InR P := fun x hx => by
  obtain ⟨i, hi, rfl⟩ := List.getElem_of_mem hx
  rcases Nat.eq_zero_or_pos i with e | e
  · subst e
    have := h.root
    rw [List.getElem?_eq_getElem h.pos] at this
    injection this with this
    omega
  · obtain ⟨p, hp, hpe⟩ := h.up i e hi
    rw [List.getElem?_eq_getElem hi] at hpe
    injection hpe with hpe
    omega
theorem Tree.step (h : Tree P) {v : Nat} (hv : v < P.length) (k : Nat) : stepA P v k < 0 ∨ stepA P v k + k ≤ v := by
  induction k with
  | zero => right; simp [stepA]
  | succ k ih =>
    have hb := stepA_bd h.inr hv k
    rcases ih with e | e
    · left; rw [stepA, if_neg (by omega)]; exact e
    · by_cases h0 : 0 ≤ stepA P v k
      · obtain ⟨x, hx⟩ : ∃ x : Nat, stepA P v k = x := ⟨(stepA P v k).toNat, by omega⟩
        have hxl : x < P.length := by omega
        rcases Nat.eq_zero_or_pos x with e0 | e0
        · subst e0
          left
          rw [step_next hx h.root]; omega
        · obtain ⟨p, hp, hpe⟩ := h.up x e0 hxl
          right
          rw [step_next hx hpe]; omega
      · left; rw [stepA, if_neg h0]; omega
theorem Tree.cnt (h : Tree P) {k : Nat} (h1 : 1 ≤ k) (hk : k ≤ P.length) : cntR P k = 1 := by
  induction k with
  | zero => omega
  | succ k ih =>
    rcases Nat.eq_zero_or_pos k with e | e
    · subst e; rw [cntR_succ h.root]; rfl
    · obtain ⟨p, hp, hpe⟩ := h.up k e (by omega)
      rw [cntR_succ hpe, ih e (by omega), if_neg (by omega)]
theorem Tree.leads (h : Tree P) : leadsB P = true := by
  rw [leads_is fun k hk => ?_, h.cnt h.pos (Nat.le_refl _)]; rfl
  rcases h.step hk P.length with e | e
  · exact e
  · omega
end
theorem tree_len (xs : List Nat) : 1 ≤ (treeP xs).length ∧ (treeP xs).length ≤ 10 := by
  unfold treeP; rw [treeK_len]; omega
theorem tree_new (xs : List Nat) : newE (planN (treeP xs).length) (planC (treeP xs).length) (treeP xs) = 0 := by
  have ht := tree_tree xs
  have hl := tree_len xs
  unfold newE
  rw [if_neg (by rw [valid_plan hl.1 hl.2]; simp), if_neg (by rw [planN_len]; simp), planN_len, if_neg (by rw [inr_yes ht.inr]; decide), if_neg (by rw [ht.leads]; decide)]
theorem inv0 {P : List Int} (ht : Tree P) : Inv P (List.replicate P.length sn0) := by
  refine ⟨by simp, fun v hv => ?_, fun v i hi => ?_⟩
  · rw [nd_rep]
    exact ⟨by simp [sn0], by simp [sn0], fun i hi => by simp [sn0] at hi, fun e => by simp [sn0] at e, fun e => by simp [sn0] at e, fun _ => by simp [sn0], fun e => by simp [sn0] at e⟩
  · rw [nd_rep, nd_rep]
    exact ⟨fun _ => ⟨rfl, rfl⟩, fun e => by simp [sn0] at e, fun e => by simp [sn0] at e, fun e => by simp [sn0] at e⟩
theorem nd_out {ns : List Sn} {v : Nat} (h : ns.length ≤ v) : nd ns v = sn0 := by
  unfold nd; rw [List.getD_eq_getElem?_getD, List.getElem?_eq_none h]; rfl
/-- What one operation keeps, besides. -/
structure Keep (P : List Int) (ns : List Sn) (fly' : List Mg) (ns' : List Sn) : Prop where
  inv : Inv P ns'
  le : Le ns ns'
  msg : ∀ m, m ∈ fly' → MOk P ns' m
theorem drainP_good {P : List Int} {ns : List Sn} (h : Inv P ns) (ht : Tree P) (v : Int) : Inv P (drainP P 0 ns v).1 ∧ Le ns (drainP P 0 ns v).1 ∧ ∀ m, m ∈ (drainP P 0 ns v).2 → MOk P (drainP P 0 ns v).1 m := by
  unfold drainP
  by_cases he : drainErr ns v = 0
  · obtain ⟨v0, hvl, hph⟩ := drain_ok he
    rw [if_pos he]
    have hg := drain_good h ht (by rw [← h.len]; exact hvl) hph
    exact ⟨hg.inv, hg.le, hg.msg⟩
  · rw [if_neg he]; exact ⟨h, Le.refl _, fun m hm => by simp at hm⟩
theorem stpM_keep {P : List Int} {ns ns' : List Sn} {fly fly1 l : List Mg} {kd n : Int} (h : Inv P ns) (ht : Tree P) (hf : ∀ m, m ∈ fly → MOk P ns m) (hs : StpM P 0 ns fly kd n ns' fly1 l) : Inv P ns' ∧ Le ns ns' ∧ (∀ m, m ∈ l → MOk P ns' m) ∧ (∀ m, m ∈ fly1 → m ∈ fly) := by
  have ho : ∀ o : OutP, (ns', l) = o → Inv P o.1 ∧ Le ns o.1 ∧ (∀ m, m ∈ o.2 → MOk P o.1 m) → Inv P ns' ∧ Le ns ns' ∧ (∀ m, m ∈ l → MOk P ns' m) := fun o e hh => by
    subst e; exact hh
  have hstay : Inv P ns ∧ Le ns ns ∧ ∀ m, m ∈ ([] : List Mg) → MOk P ns m := ⟨h, Le.refl _, fun m hm => by simp at hm⟩
  have hgood : ∀ o, Good P ns o → Inv P o.1 ∧ Le ns o.1 ∧ (∀ m, m ∈ o.2 → MOk P o.1 m) := fun o hg => ⟨hg.inv, hg.le, hg.msg⟩
  rcases hs with ⟨_, rfl, e⟩ | ⟨i, m, hi, ⟨_, rfl, e⟩ | ⟨_, rfl, e⟩ | ⟨_, rfl, e⟩⟩ | ⟨_, rfl, e⟩ | ⟨_, rfl, e⟩ | ⟨_, rfl, e⟩
  · obtain ⟨a, b, c⟩ := ho _ e (hgood _ (begin_good h ht)); exact ⟨a, b, c, fun m hm => hm⟩
  · obtain ⟨a, b, c⟩ := ho _ e (hgood _ (recv_good h ht m (hf m (List.mem_of_getElem? hi)))); exact ⟨a, b, c, fun m hm => List.mem_of_mem_eraseIdx hm⟩
  · obtain ⟨a, b, c⟩ := ho _ e (hgood _ (recv_good h ht m (hf m (List.mem_of_getElem? hi)))); exact ⟨a, b, c, fun m hm => hm⟩
  · obtain ⟨a, b, c⟩ := ho _ e hstay; exact ⟨a, b, c, fun m hm => List.mem_of_mem_eraseIdx hm⟩
  · obtain ⟨a, b, c⟩ := ho _ e (drainP_good h ht n); exact ⟨a, b, c, fun m hm => hm⟩
  · obtain ⟨a, b, c⟩ := ho _ e ⟨h, Le.refl _, repeat_ok h⟩; exact ⟨a, b, c, fun m hm => hm⟩
  · obtain ⟨a, b, c⟩ := ho _ e hstay; exact ⟨a, b, c, fun m hm => hm⟩
theorem stpR_keep {P : List Int} {ns ns' : List Sn} {fly fly' : List Mg} {kd n : Int} (h : Inv P ns) (ht : Tree P) (hf : ∀ m, m ∈ fly → MOk P ns m) (hs : StpR P 0 ns fly kd n ns' fly') : Keep P ns fly' ns' := by
  rcases hs with ⟨fly1, l, hm, rfl⟩ | ⟨_, _, rfl, rfl, rfl⟩
  · obtain ⟨a, b, c, d⟩ := stpM_keep h ht hf hm
    refine ⟨a, b, fun m hm' => ?_⟩
    rcases List.mem_append.1 hm' with h1 | h1
    · exact (hf m (d m (List.mem_of_mem_take h1))).le b.st
    · exact c m h1
  · exact ⟨h, Le.refl _, fun m hm => by simp at hm⟩
theorem stpR_len {P : List Int} {r : Nat} {ns ns' : List Sn} {fly fly' : List Mg} {kd n : Int} (hn : ns.length = P.length) (hp : P.length ≤ 10) (hs : StpR P r ns fly kd n ns' fly') : fly'.length ≤ 1000 := by
  rcases hs with ⟨fly1, l, hm, rfl⟩ | ⟨_, _, rfl, rfl, rfl⟩
  · have := hm.len hn hp
    rw [List.length_append, List.length_take]; omega
  · simp
/-- What holds behind k operations. -/
structure St (w0 : World) (L : Lay) (xs : List Nat) (k : Nat) (M : List Nm) (fly : List Mg) (A : Option Addr) (kap : Nat) (w : World) : Prop where
  P : L.P = treeP xs
  root : L.root = 0
  ch : ChAt w L M
  inv : Inv L.P (sns M)
  ok : ∀ m, m ∈ fly → MOk L.P (sns M) m
  ep : ∀ v, (nd (sns M) v).ep ≤ k
  fl : fly.length ≤ 1000
  own : w.ownsRow 0 39 4 (.slice A fly.length kap) fly.length (mcells fly)
  sl : ∀ g, SL L M g → w0.heap.size ≤ g
  bel : Below w0.heap.size w0 w
section
variable {w0 w w' : World} {L : Lay} {xs : List Nat} {k : Nat} {M : List Nm} {fly : List Mg} {A : Option Addr} {kap : Nat}
theorem St.tree (h : St w0 L xs k M fly A kap w) : Tree L.P := by rw [h.P]; exact tree_tree xs
theorem St.p10 (h : St w0 L xs k M fly A kap w) : L.P.length ≤ 10 := by rw [h.P]; exact (tree_len xs).2
theorem St.fit (h : St w0 L xs k M fly A kap w) (hk : k ≤ 100000) : Fit (sns M) := by
  refine ⟨fun v _ => Nat.le_trans (h.ep v) (by unfold MaxEp; omega), fun v hv => (h.inv.wf v (by rw [← h.inv.len]; exact hv)).ph, fun v hv => ?_⟩
  have h1 := an_le h.inv (v := v) (by rw [← h.inv.len]; exact hv)
  have h2 := kids_len L.P v
  have h3 := h.p10
  omega
theorem St.new_ (h : St w0 L xs k M fly A kap w) (hb : Below w.heap.size w w') : St w0 L xs k M fly A kap w' :=
  ⟨h.P, h.root, h.ch.new_ hb, h.inv, h.ok, h.ep, h.fl, own_new h.own hb, h.sl, join h.bel hb⟩
theorem St.more {k' : Nat} (h : St w0 L xs k M fly A kap w) (hk : k ≤ k') : St w0 L xs k' M fly A kap w := ⟨h.P, h.root, h.ch, h.inv, h.ok, fun v => Nat.le_trans (h.ep v) hk, h.fl, h.own, h.sl, h.bel⟩
/-- The change alone goes on. -/
theorem St.upd {M' : List Nm} (h : St w0 L xs k M fly A kap w) (hC : ChAt w' L M') (hI : Inv L.P (sns M')) (hle : Le (sns M) (sns M')) (ho : OnlyP (SL L M) w w') (hs : ∀ g, SL L M' g → SL L M g ∨ w.heap.size ≤ g) : St w0 L xs (k + 1) M' fly A kap w' :=
  ⟨h.P, h.root, hC, hI, fun m hm => (h.ok m hm).le hle.st, fun v => Nat.le_trans (hle.ep1 v) (by have := h.ep v; omega), h.fl, own_keep h.own ho (sl_own h.ch h.own), fun g hg => by
    rcases hs g hg with e | e
    · exact h.sl g e
    · have := h.bel.size; omega, h.bel.trans ((ho.below (B := w0.heap.size) h.sl h.bel.size))⟩
theorem St.step {e : Ending} {kd n : Int} (h : St w0 L xs k M fly A kap w) (hs : StepR w L M fly kd n e w') : ∃ (A' : Option Addr) (kap' : Nat) (fly' : List Mg) (M' : List Nm), e = .returned (.slice A' fly'.length kap') ∧ St w0 L xs (k + 1) M' fly' A' kap' w' ∧ StpR L.P 0 (sns M) fly kd n (sns M') fly' ∧ Le (sns M) (sns M') ∧ OnlyP (SL L M) w w' := by
  obtain ⟨A', kap', fly', M', rfl, hR, hC, hown, hon, hsl⟩ := hs
  rw [h.root] at hR
  have hk := stpR_keep h.inv h.tree h.ok hR
  have hu := h.upd hC hk.inv hk.le hon hsl
  exact ⟨A', kap', fly', M', rfl, ⟨h.P, h.root, hC, hk.inv, hk.msg, hu.ep, stpR_len h.inv.len h.p10 hR, hown, hu.sl, hu.bel⟩, hR, hk.le, hon⟩
theorem sl_own3 (h : ChAt w L M) {B sz n : Nat} {e : TypeId} {v : Value} {xs : List Value} (ho : w.ownsRow B e sz v n xs) (he : e ≠ 89) : ∀ g, v.ownBlock = some g → ¬ SL L M g := fun g hg hs => by
  rcases hs with e2 | ⟨m, hm, e2⟩
  · exact own_blk_ne ho h.nodes he (by rw [hg, e2])
  · rcases ho.2 with ⟨rfl, _⟩ | ⟨g', cap, cur, rfl, _, hh, _⟩
    · simp [Value.ownBlock] at hg
    · have : g' = g := by simpa [Value.ownBlock] using hg
      subst this
      exact (h.mlt m hm _ e2).2 _ _ hh
end
theorem st_start {w0 w1 w' : World} {xs : List Nat} {L : Lay} (hP : L.P = treeP xs) (hr : L.root = rootK (treeP xs) (treeP xs).length) (hC : ChAt w' L (List.replicate (treeP xs).length ⟨⟨0, 0, [], false⟩, none⟩)) (hSL : ∀ g, SL L (List.replicate (treeP xs).length ⟨⟨0, 0, [], false⟩, none⟩) g → w1.heap.size ≤ g)
    (hb : Below w0.heap.size w0 w') (h1 : w0.heap.size ≤ w1.heap.size) : St w0 L xs 0 (List.replicate (treeP xs).length ⟨⟨0, 0, [], false⟩, none⟩) [] none 0 w' := by
  have ht := tree_tree xs
  refine ⟨hP, hr.trans (rootK_tree ht (Nat.le_refl _)), hC, ?_, fun m hm => by simp at hm, fun v => ?_, by simp, World.ownsRow_nil _ _ _ _, fun g hg => Nat.le_trans h1 (hSL g hg), hb⟩
  · rw [sns_rep, hP]; exact inv0 ht
  · rw [sns_rep, nd_rep]; exact Nat.le_refl _
def epsL (ns : List Sn) (n : Nat) : List Int := (List.range n).map fun v => ((nd ns v).ep : Int)
theorem epsL_len (ns : List Sn) (n : Nat) : (epsL ns n).length = n := by simp [epsL]
theorem epsL_get {ns : List Sn} {n i : Nat} (h : i < n) : (epsL ns n)[i]? = some ((nd ns i).ep : Int) := by simp [epsL, h]
theorem epsL_succ (ns : List Sn) (i : Nat) : epsL ns (i + 1) = epsL ns i ++ [((nd ns i).ep : Int)] := by unfold epsL; rw [List.range_succ, List.map_append]; rfl
theorem row_cell {w : World} {B g n kap i : Nat} {l : List Int} {x : Int} (h : w.ownsRow B 3 1 (.slice (some ⟨g, 0, none⟩) n kap) n (l.flatMap icell)) (hx : l[i]? = some x) : w.cell? ⟨g, i, none⟩ = some (.int .i64 x) := by
  have hi : i < l.length := (List.getElem?_eq_some_iff.1 hx).1
  have hl : n = l.length := by have := h.1; rw [flat_len icell_len] at this; omega
  obtain ⟨y, b, off, hy, hA, -, hc⟩ := p_at (RowsAt.of_own h icell_len (by omega) hl) hi
  injection hA with hA
  injection hA with e1 e2
  subst e1 e2
  rw [hx] at hy
  injection hy with hy
  subst hy
  simpa using hc
theorem epQ_at {ns : List Sn} {i : Nat} (h : i < ns.length) : epQ ns (i : Int) = ((nd ns i).ep : Int) := by unfold epQ; rw [if_neg (by omega)]; simp
theorem phQ_at {ns : List Sn} {i : Nat} (h : i < ns.length) : phQ ns (i : Int) = ((nd ns i).ph : Int) := by unfold phQ; rw [if_neg (by omega)]; simp
theorem own_zeros (w : World) (n : Nat) (hn : n ≤ 1000000) : (w.alloc (.cells ((List.replicate n (0 : Int)).flatMap icell).toArray 3)).ownsRow w.heap.size 3 1 (.slice (some ⟨w.heap.size, 0, none⟩) n n) n ((List.replicate n (0 : Int)).flatMap icell) := by
  have hl : ((List.replicate n (0 : Int)).flatMap icell).length = n := by rw [flat_len icell_len]; simp
  exact ⟨by omega, .inr ⟨w.heap.size, n, _, rfl, Nat.le_refl _, heap_alloc_new w _, Nat.le_refl _, by unfold maxLen; omega, by rw [List.size_toArray]; omega, by rw [Nat.mul_one]; exact List.take_of_length_le (Nat.le_of_eq hl)⟩⟩
theorem eps0 (n : Nat) : epsL (List.replicate n sn0) n = List.replicate n 0 := by
  unfold epsL
  apply List.ext_getElem?
  intro i
  rw [List.getElem?_map, List.getElem?_replicate]
  by_cases h : i < n
  · rw [if_pos h, List.getElem?_range h, Option.map_some, nd_rep]; rfl
  · rw [if_neg h]; simp [h]
/-! ### the greatest and the least -/
set_option maxHeartbeats 2000000 in
theorem max_c (l : List Int) (A : Option Addr) (B cap : Nat) (w : World) (hr : RowsAt w B 1 icell A l) (h0 : 0 < l.length) (hl : l.length ≤ 1000000) :
    Calls Try.prog 34 #[.slice A l.length cap] w fun e w' => (∃ x : Int, e = .returned (.int .i64 x) ∧ x ∈ l) ∧ w = w' := by
  have HR := Kept.mk hr
  obtain ⟨x0, b, off, hx, hA, hb, c0⟩ := p_at hr h0
  have HX0 := Kept.mk (List.mem_of_getElem? hx)
  have HA := Kept.mk hA
  rw [hA]
  clear hr hx hA
  simp only [Nat.add_zero] at c0
  go_enter Try.func34, Try.ntmps34
  go_wp2_with fail
  go_loop [3, 4] (fun v3 v4 => ∃ (k : Nat) (x : Int), 1 ≤ k ∧ k ≤ l.length ∧ v4 = .int .i64 k ∧ v3 = .int .i64 x ∧ Kept (x ∈ l)) (fun _ v4 => l.length - (intOf v4).toNat)
  case atStart => exact ⟨1, x0, by omega, by omega, rfl, rfl, HX0⟩
  case round =>
    obtain ⟨k, x, h1, hk, rfl, rfl, HX⟩ := hrel
    by_cases hlt : k < l.length
    · obtain ⟨y, b', off', hy, hA', hb', c1⟩ := p_at HR.out hlt
      have HY := Kept.mk (List.mem_of_getElem? hy)
      rw [HA.out] at hA'
      injection hA' with hA'
      injection hA' with e1 e2
      subst e1 e2
      clear hy
      by_cases hxy : x ≤ y
      · have hm : max x y = y := by omega
        go_wp2_with fail
        go_round
        case rel => exact ⟨k + 1, y, by omega, by omega, by go_num, by first | rfl | rw [hm] | (congr 1; omega), HY⟩
        case measure => simp [intOf]; omega
      · have hm : max x y = x := by omega
        go_wp2_with fail
        go_round
        case rel => exact ⟨k + 1, x, by omega, by omega, by go_num, by first | rfl | rw [hm] | (congr 1; omega), HX⟩
        case measure => simp [intOf]; omega
    · obtain rfl : k = l.length := by omega
      clear hlt
      go_wp2_with fail
      go_ret
      exact ⟨⟨x, rfl, HX.out⟩, rfl⟩
set_option maxHeartbeats 2000000 in
theorem min_c (l : List Int) (A : Option Addr) (B cap : Nat) (w : World) (hr : RowsAt w B 1 icell A l) (h0 : 0 < l.length) (hl : l.length ≤ 1000000) :
    Calls Try.prog 35 #[.slice A l.length cap] w fun e w' => (∃ x : Int, e = .returned (.int .i64 x) ∧ x ∈ l) ∧ w = w' := by
  have HR := Kept.mk hr
  obtain ⟨x0, b, off, hx, hA, hb, c0⟩ := p_at hr h0
  have HX0 := Kept.mk (List.mem_of_getElem? hx)
  have HA := Kept.mk hA
  rw [hA]
  clear hr hx hA
  simp only [Nat.add_zero] at c0
  go_enter Try.func35, Try.ntmps35
  go_wp2_with fail
  go_loop [3, 4] (fun v3 v4 => ∃ (k : Nat) (x : Int), 1 ≤ k ∧ k ≤ l.length ∧ v4 = .int .i64 k ∧ v3 = .int .i64 x ∧ Kept (x ∈ l)) (fun _ v4 => l.length - (intOf v4).toNat)
  case atStart => exact ⟨1, x0, by omega, by omega, rfl, rfl, HX0⟩
  case round =>
    obtain ⟨k, x, h1, hk, rfl, rfl, HX⟩ := hrel
    by_cases hlt : k < l.length
    · obtain ⟨y, b', off', hy, hA', hb', c1⟩ := p_at HR.out hlt
      have HY := Kept.mk (List.mem_of_getElem? hy)
      rw [HA.out] at hA'
      injection hA' with hA'
      injection hA' with e1 e2
      subst e1 e2
      clear hy
      by_cases hxy : x ≤ y
      · have hm : min x y = x := by omega
        go_wp2_with fail
        go_round
        case rel => exact ⟨k + 1, x, by omega, by omega, by go_num, by first | rfl | rw [hm] | (congr 1; omega), HX⟩
        case measure => simp [intOf]; omega
      · have hm : min x y = y := by omega
        go_wp2_with fail
        go_round
        case rel => exact ⟨k + 1, y, by omega, by omega, by go_num, by first | rfl | rw [hm] | (congr 1; omega), HY⟩
        case measure => simp [intOf]; omega
    · obtain rfl : k = l.length := by omega
      clear hlt
      go_wp2_with fail
      go_ret
      exact ⟨⟨x, rfl, HX.out⟩, rfl⟩
end Go.Proofs.Ytibmbhnpmfgclaa
