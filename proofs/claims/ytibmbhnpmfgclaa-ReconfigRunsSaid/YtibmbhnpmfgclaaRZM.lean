/- Reconfig: the walk of the reference's Repeat (printed by gen_rzm.py). -/
import Derived.Test.YtibmbhnpmfgclaaRZK
import Derived.Test.YtibmbhnpmfgclaaRegK
namespace Go.Proofs.Ytibmbhnpmfgclaa
set_option linter.unusedVariables false
set_option linter.unusedSimpArgs false
open Go.RowKit Go.Maps
theorem rRepK_succ (P : List Int) (rs : List Rp) (k : Nat) : rRepK P rs (k + 1) = rRepK P rs k ++ rSend P (rd rs k) k := by
  unfold rRepK; rw [List.range_succ, List.flatMap_append]; simp
theorem rSend_len (P : List Int) (y : Rp) (v : Nat) : (rSend P y v).length ≤ P.length + 1 := by
  have h1 := kids_len P v
  have h2 := List.length_filter_le (fun c => !(y.L.getD c false)) (kids P v)
  unfold rSend
  repeat' split
  · rw [List.length_map]; omega
  · simp [riseP]
  · rw [List.length_map]; omega
  · simp
theorem rRepK_len (P : List Int) (rs : List Rp) (k : Nat) : (rRepK P rs k).length ≤ k * (P.length + 1) := by
  induction k with
  | zero => simp [rRepK]
  | succ k ih => rw [rRepK_succ, List.length_append, Nat.succ_mul]; have := rSend_len P (rd rs k) k; omega
/-- The first messages to the children that have not answered. -/
def sndK (K : List Nat) (L : List Bool) (kind : Int) (v : Nat) (ep : Int) : List Mg := (K.filter fun c => !(L.getD c false)).map fun (c : Nat) => ⟨kind, v, c, ep⟩
theorem sndK_yes {K : List Nat} {L : List Bool} {kind ep : Int} {v k c : Nat} (hc : K[k]? = some c) (h : L.getD c false = true) : sndK (K.take (k + 1)) L kind v ep = sndK (K.take k) L kind v ep := by
  unfold sndK; rw [take_next hc, List.filter_append, List.filter_cons_of_neg (by show ¬ ((!(L.getD c false)) = true); rw [h]; decide)]; simp
theorem sndK_no {K : List Nat} {L : List Bool} {kind ep : Int} {v k c : Nat} (hc : K[k]? = some c) (h : L.getD c false = false) : sndK (K.take (k + 1)) L kind v ep = sndK (K.take k) L kind v ep ++ [⟨kind, v, c, ep⟩] := by
  unfold sndK; rw [take_next hc, List.filter_append, List.filter_cons_of_pos (by show (!(L.getD c false)) = true; rw [h]; rfl), List.map_append]; rfl
theorem sndK_len (K : List Nat) (L : List Bool) (kind : Int) (v : Nat) (ep : Int) : (sndK K L kind v ep).length ≤ K.length := by
  unfold sndK; rw [List.length_map]; exact List.length_filter_le _ _
/-- What the loops of Repeat keep. -/
structure RepW (w wr : World) (P : List Int) (S : RSt) (X : List Mg) (v3 : Value) : Prop where
  own : wr.ownsRow (w.heap.size + 1) 62 4 v3 X.length (X.flatMap mcell)
  bx : Blk wr w.heap.size 53 #[.slice (some ⟨S.gp, 0, none⟩) P.length S.kp, .slice (some ⟨S.g, 0, none⟩) P.length S.kn]
  blw : Below w.heap.size w wr
section
variable {w wr w' : World} {P : List Int} {S : RSt} {X : List Mg} {v3 : Value}
theorem RepW.new_ (h : RepW w wr P S X v3) (hb : Below wr.heap.size wr w') : RepW w w' P S X v3 := ⟨own_new h.own hb, h.bx.new_ hb, join h.blw hb⟩
theorem RepW.app {wm : World} {m : Mg} {v' : Value} (h : RepW w wm P S X v3) (hg : wm.grownBy w' v3.ownBlock) (ho : w'.ownsRow (w.heap.size + 1) 62 4 v' (X.length + 1) (X.flatMap mcell ++ mcell m)) : RepW w w' P S (X ++ [m]) v' := by
  refine ⟨by rw [List.length_append, List.flatMap_append]; simpa using ho, h.bx.grown hg (fun e => by have := (h.own.lt _ e.symm).1; omega), h.blw.grown hg h.blw.size (fun j hj => by have := (h.own.lt j hj).1; omega)⟩
/-- The kids' row. -/
def KidAt (w : World) (Ak : Option Addr) (K : List Nat) : Prop := 0 < K.length → ∃ gK, Ak = some ⟨gK, 0, none⟩ ∧ OwnAt w gK 3 1 kcell K
theorem KidAt.new_ {Ak : Option Addr} {K : List Nat} (h : KidAt w Ak K) (hb : Below w.heap.size w w') : KidAt w' Ak K := fun hp => by
  obtain ⟨g, e, ho⟩ := h hp; exact ⟨g, e, ho.new_ hb⟩
theorem KidAt.grown {Ak : Option Addr} {K : List Nat} {B n : Nat} {xs : List Value} (h : KidAt w Ak K) (hg : w.grownBy w' v3.ownBlock) (ho : w.ownsRow B 62 4 v3 n xs) : KidAt w' Ak K := fun hp => by
  obtain ⟨g, e, hk⟩ := h hp
  obtain ⟨cs, hb⟩ := hk.blk
  exact ⟨g, e, hk.grown hg (fun e => own_blk_ne ho hb (by decide) e.symm)⟩
theorem KidAt.cell {Ak : Option Addr} {K : List Nat} {k : Nat} (h : KidAt w Ak K) (hk : k < K.length) : ∃ c g, K[k]? = some c ∧ Ak = some ⟨g, 0, none⟩ ∧ g < w.heap.size ∧ w.cell? ⟨g, k, none⟩ = some (.int .i64 (c : Nat)) := by
  obtain ⟨g, e, ho⟩ := h (by omega)
  obtain ⟨c, hc⟩ := get_some hk
  have := ho.cell hc (j := 0) rfl
  exact ⟨c, g, hc, e, ho.lt, by simpa using this⟩
theorem KidAt.of_own {B n kap : Nat} {Ak : Option Addr} {K : List Nat} (h : w.ownsRow B 3 1 (.slice Ak n kap) n (K.flatMap kcell)) (hn : n = K.length) : KidAt w Ak K := fun hp => by
  obtain ⟨g, e, _, ho⟩ := OwnAt.of_own h kcell_len (by omega) hn (by omega)
  exact ⟨g, e, ho⟩
theorem Blk.beside {g : Nat} {t : TypeId} {cs : Array Value} {B n : Nat} {xs : List Value} (h : Blk w g t cs) (hg : w.grownBy w' v3.ownBlock) (ho : w.ownsRow B 62 4 v3 n xs) (ht : 62 ≠ t) : Blk w' g t cs := h.grown hg (fun e => own_blk_ne ho h ht e.symm)
end
section
variable (w : World) (P : List Int) (S : RSt)
set_option maxRecDepth 100000 in
set_option maxHeartbeats 8000000 in
theorem rRepeat_c (h : RAt w P S) (hE : ∀ n, n ∈ S.N → n.x.ep ≤ 1000000) (hL : ∀ n, n ∈ S.N → n.x.ph = 1 ∨ n.x.ph = 3 → n.x.L.length = P.length) : Calls Try.prog 29 #[.agg #[.slice (some ⟨S.gp, 0, none⟩) P.length S.kp, .slice (some ⟨S.g, 0, none⟩) P.length S.kn]] w fun e w' =>
    ∃ A kap, e = .returned (.slice A (rRepK P (rps S) P.length).length kap) ∧ w'.ownsRow w.heap.size 62 4 (.slice A (rRepK P (rps S) P.length).length kap) (rRepK P (rps S) P.length).length ((rRepK P (rps S) P.length).flatMap mcell) ∧ Below w.heap.size w w' := by
  have HH := Kept.mk h
  have HE := Kept.mk hE
  have HL := Kept.mk hL
  have sm := h.sm
  have hlen := h.len
  obtain ⟨jj, hjj, hy0, hy1, hy2⟩ := info_parts infoRM
  have HB := Kept.mk (Blk.new w 53 #[.slice (some ⟨S.gp, 0, none⟩) P.length S.kp, .slice (some ⟨S.g, 0, none⟩) P.length S.kn])
  have HD0 : Kept (Below w.heap.size w (w.alloc (.cells #[.slice (some ⟨S.gp, 0, none⟩) P.length S.kp, .slice (some ⟨S.g, 0, none⟩) P.length S.kn] 53))) := ⟨(Below.refl _ _).alloc (Nat.le_refl _) _⟩
  clear h hE hL
  go_enter Try.func29, Try.ntmps29
  go_wp2_with fail
  go_loopw [3, 4] (fun v3 v4 wr => ∃ k : Nat, k ≤ P.length ∧ v4 = .int .i64 k ∧ Kept (RepW w wr P S (rRepK P (rps S) k) v3)) (fun _ v4 _ => P.length - (intOf v4).toNat)
  case atStart => exact ⟨0, Nat.zero_le _, rfl, ⟨⟨World.ownsRow_nil _ _ _ _, HB.out, HD0.out⟩⟩⟩
  case round =>
    clear HB HD0
    obtain ⟨k, hk, rfl, HRR⟩ := hrel
    have hz := HRR.out.blw.size
    have z0 := HRR.out.bx.lt
    have c0 := HRR.out.bx.cell 0 (v := .slice (some ⟨S.gp, 0, none⟩) P.length S.kp) rfl
    have c1 := HRR.out.bx.cell 1 (v := .slice (some ⟨S.g, 0, none⟩) P.length S.kn) rfl
    by_cases hlt : k < P.length
    · obtain ⟨n, hn⟩ := get_some (l := S.N) (k := k) (by omega)
      obtain ⟨n0, n1, n2, n3, vl, zg, zp, fr⟩ := (HH.out.new_ HRR.out.blw).node hn
      have HNN := Kept.mk hn
      have hEn := HE.out n (List.mem_of_getElem? hn)
      have HSX : Kept (rRepK P (rps S) (k + 1) = rRepK P (rps S) k ++ rSend P n.x k) := ⟨by rw [rRepK_succ, rps_get hn]⟩
      have hb0 := rRepK_len P (rps S) k
      have hb2 : k * (P.length + 1) ≤ 1000000 * 1000001 := Nat.mul_le_mul (by omega) (by omega)
      obtain ⟨W1, hW1⟩ : ∃ W1, W1 = wr.alloc (.cells #[.int .i64 n.x.ep, .int .i64 n.x.ph, .bool n.x.dr, .slice n.A n.x.L.length n.k] 68) := ⟨_, rfl⟩
      have hbw1 : Below wr.heap.size wr W1 := by rw [hW1]; exact (Below.refl _ _).alloc (Nat.le_refl _) _
      have HR1 := Kept.mk (HRR.out.new_ hbw1)
      have HNB : Kept (Blk W1 wr.heap.size 68 #[.int .i64 n.x.ep, .int .i64 n.x.ph, .bool n.x.dr, .slice n.A n.x.L.length n.k]) := ⟨by rw [hW1]; exact Blk.new _ _ _⟩
      have HA1 := Kept.mk (HH.out.new_ HR1.out.blw)
      have hwr : IntKind.i64.wrap ((n.x.ep : Int) + 1) = (n.x.ep : Int) + 1 := (by rw [IntKind.wrap_i64]; omega)
      have HRX : Kept (RepW w (wr.alloc (.cells #[.int .i64 n.x.ep, .int .i64 n.x.ph, .bool n.x.dr, .slice n.A n.x.L.length n.k] 68)) P S (rRepK P (rps S) k) _) := ⟨by rw [← hW1]; exact HR1.out⟩
      have HNX : Kept (Blk (wr.alloc (.cells #[.int .i64 n.x.ep, .int .i64 n.x.ph, .bool n.x.dr, .slice n.A n.x.L.length n.k] 68)) wr.heap.size 68 #[.int .i64 n.x.ep, .int .i64 n.x.ph, .bool n.x.dr, .slice n.A n.x.L.length n.k]) := ⟨by rw [← hW1]; exact HNB.out⟩
      have HAX : Kept (RAt (wr.alloc (.cells #[.int .i64 n.x.ep, .int .i64 n.x.ph, .bool n.x.dr, .slice n.A n.x.L.length n.k] 68)) P S) := ⟨by rw [← hW1]; exact HA1.out⟩
      have b0 := HR1.out.bx.cell 0 (v := .slice (some ⟨S.gp, 0, none⟩) P.length S.kp) rfl
      have b1 := HR1.out.bx.cell 1 (v := .slice (some ⟨S.g, 0, none⟩) P.length S.kn) rfl
      have d0 := HNB.out.cell 0 (v := .int .i64 n.x.ep) rfl
      have d1 := HNB.out.cell 1 (v := .int .i64 n.x.ph) rfl
      have d3 := HNB.out.cell 3 (v := .slice n.A n.x.L.length n.k) rfl
      have zb := HR1.out.bx.lt
      have zn := HNB.out.lt
      obtain ⟨gN, hgN⟩ : ∃ gN, gN = wr.heap.size := ⟨_, rfl⟩
      clear hn fr hbw1
      rcases (by omega : n.x.ph = 2 ∨ n.x.ph = 1 ∨ n.x.ph = 3 ∨ (n.x.ph ≠ 1 ∧ n.x.ph ≠ 2 ∧ n.x.ph ≠ 3)) with hp | hp | hp | hp
      · have hs : rSend P n.x k = riseP P 2 k ((n.x.ep : Int) + 1) := by unfold rSend; rw [if_neg (by omega), if_pos hp]
        rw [hs] at HSX
        obtain ⟨q2, r2⟩ := z_yes (show (n.x.ph : Int) = 2 by omega)
        obtain ⟨q1, r1⟩ := z_no (show (n.x.ph : Int) ≠ 1 by omega)
        obtain ⟨q3, r3⟩ := z_no (show (n.x.ph : Int) ≠ 3 by omega)
        obtain ⟨x, hx, hxc⟩ := HA1.out.par.int vl
        have hpx : parI P k = x := by simp [parI, hx]
        have zp1 := HA1.out.par.lt
        have HPX := Kept.mk hpx
        clear hx hpx hs hp
        go_upto_region 7 with fail
        rw [← hW1]
        rw [← hgN] at HNB d0 d1 d3 zn ⊢
        clear hW1 n0 n1 n2 n3 c0 c1 hgN
        have HRW := HR1
        have k0 : W1.drew.cell? ⟨w.heap.size, 0, none⟩ = some (.slice (some ⟨S.gp, 0, none⟩) P.length S.kp) := b0
        have k1 : W1.drew.cell? ⟨gN, 0, none⟩ = some (.int .i64 n.x.ep) := d0
        have k2 : W1.drew.cell? ⟨S.gp, k, none⟩ = some (.int .i64 x) := hxc
        have HW6 : Kept (RepW w (W1.alloc (.cells #[Value.int .i64 2, Value.int .i64 k, Value.int .i64 x, Value.int .i64 ((n.x.ep : Int) + 1)] 62)).drew P S (rRepK P (rps S) k) _) := ⟨HRW.out.new_ (bdrew ((Below.refl _ _).alloc (Nat.le_refl _) _))⟩
        have HOK := Kept.mk HW6.out.own
        have HMS := Kept.mk ((reads_made W1 #[Value.int .i64 2, Value.int .i64 k, Value.int .i64 x, Value.int .i64 ((n.x.ep : Int) + 1)] 62 4 1 rfl).drew)
        have HDS : Kept (w.heap.size + 1 ≤ (W1.alloc (.cells #[Value.int .i64 2, Value.int .i64 k, Value.int .i64 x, Value.int .i64 ((n.x.ep : Int) + 1)] 62)).drew.heap.size) := ⟨HW6.out.bx.lt⟩
        have g1 : ∀ u ∈ (#[Value.int .i64 2, Value.int .i64 k, Value.int .i64 x, Value.int .i64 ((n.x.ep : Int) + 1)]).toList, u.oneCell' = true := (by intro u hu; simp at hu; rcases hu with rfl | rfl | rfl | rfl <;> rfl)
        have j0 : (W1.alloc (.cells #[Value.int .i64 2, Value.int .i64 k, Value.int .i64 x, Value.int .i64 ((n.x.ep : Int) + 1)] 62)).drew.cell? ⟨w.heap.size, 0, none⟩ = some (.slice (some ⟨S.gp, 0, none⟩) P.length S.kp) := (World.cell?_alloc_lt W1 _ _ (by show _ < W1.heap.size; assumption)).trans k0
        have j1 : (W1.alloc (.cells #[Value.int .i64 2, Value.int .i64 k, Value.int .i64 x, Value.int .i64 ((n.x.ep : Int) + 1)] 62)).drew.cell? ⟨gN, 0, none⟩ = some (.int .i64 n.x.ep) := (World.cell?_alloc_lt W1 _ _ (by show _ < W1.heap.size; assumption)).trans k1
        have j2 : (W1.alloc (.cells #[Value.int .i64 2, Value.int .i64 k, Value.int .i64 x, Value.int .i64 ((n.x.ep : Int) + 1)] 62)).drew.cell? ⟨S.gp, k, none⟩ = some (.int .i64 x) := (World.cell?_alloc_lt W1 _ _ (by show _ < W1.heap.size; assumption)).trans k2
        refine wp_region_K (S := (fun w' => w'.cell? ⟨w.heap.size, 0, none⟩ = some (.slice (some ⟨S.gp, 0, none⟩) P.length S.kp) ∧ w'.cell? ⟨gN, 0, none⟩ = some (.int .i64 n.x.ep) ∧ w'.cell? ⟨S.gp, k, none⟩ = some (.int .i64 x))) (k := 13) (by kernel_rfl) (by (try dsimp only); (first | (go_keep; done) | (go_simp; done) | exact ⟨y0, y1, y2⟩ | exact ⟨k0, k1, k2⟩ | exact ⟨j0, j1, j2⟩)) (fun hHeld => ?_)
        refine wpAnyK_take (i := 0) (v := ?_) rfl (by kernel_rfl) (by kernel_rfl) (by kernel_rfl) (by kernel_rfl) (fun _ _ _ h => h) (Or.inl ⟨by rfl, ?_⟩) (by assumption) ?_; rotate_left; (intro w hSw; (try dsimp only at hSw); go_simp; try (with_reducible rfl)); try simp only [Act.put, List.setIfInBounds_toArray, List.set_cons_zero, List.set_cons_succ, List.getElem_toArray, List.getElem_cons_succ, List.getElem_cons_zero]
        refine wpAnyK_take (i := 1) (v := ?_) rfl (by kernel_rfl) (by kernel_rfl) (by kernel_rfl) (by kernel_rfl) (fun _ _ _ h => h) (Or.inl ⟨by rfl, ?_⟩) (by assumption) ?_; rotate_left; (intro w hSw; (try dsimp only at hSw); go_simp; try (with_reducible rfl)); try simp only [Act.put, List.setIfInBounds_toArray, List.set_cons_zero, List.set_cons_succ, List.getElem_toArray, List.getElem_cons_succ, List.getElem_cons_zero]
        refine wpAnyK_take (i := 2) (v := ?_) rfl (by kernel_rfl) (by kernel_rfl) (by kernel_rfl) (by kernel_rfl) (fun _ _ _ h => h) (Or.inl ⟨by rfl, ?_⟩) (by assumption) ?_; rotate_left; (intro w hSw; (try dsimp only at hSw); go_simp; try (with_reducible rfl)); try simp only [Act.put, List.setIfInBounds_toArray, List.set_cons_zero, List.set_cons_succ, List.getElem_toArray, List.getElem_cons_succ, List.getElem_cons_zero]
        refine wpAnyK_take (i := 3) (v := ?_) rfl (by kernel_rfl) (by kernel_rfl) (by kernel_rfl) (by kernel_rfl) (fun _ _ _ h => h) (Or.inl ⟨by rfl, ?_⟩) (by assumption) ?_; rotate_left; (intro w hSw; (try dsimp only at hSw); go_simp; try (with_reducible rfl)); try simp only [Act.put, List.setIfInBounds_toArray, List.set_cons_zero, List.set_cons_succ, List.getElem_toArray, List.getElem_cons_succ, List.getElem_cons_zero]
        refine wpAnyK_take (i := 4) (v := ?_) rfl (by kernel_rfl) (by kernel_rfl) (by kernel_rfl) (by kernel_rfl) (fun _ _ _ h => h) (Or.inl ⟨by rfl, ?_⟩) (by assumption) ?_; rotate_left; (intro w hSw; (try dsimp only at hSw); go_simp; try (with_reducible rfl)); try simp only [Act.put, List.setIfInBounds_toArray, List.set_cons_zero, List.set_cons_succ, List.getElem_toArray, List.getElem_cons_succ, List.getElem_cons_zero]
        refine wpAnyK_take (i := 5) (v := ?_) rfl (by kernel_rfl) (by kernel_rfl) (by kernel_rfl) (by kernel_rfl) (fun _ _ _ h => h) (Or.inl ⟨by rfl, ?_⟩) (by assumption) ?_; rotate_left; (intro w hSw; (try dsimp only at hSw); go_simp; try (with_reducible rfl)); try simp only [Act.put, List.setIfInBounds_toArray, List.set_cons_zero, List.set_cons_succ, List.getElem_toArray, List.getElem_cons_succ, List.getElem_cons_zero]
        refine wpAnyK_take (i := 6) (v := ?_) rfl (by kernel_rfl) (by kernel_rfl) (by kernel_rfl) (by kernel_rfl) (fun _ _ _ h => h) (Or.inl ⟨by rfl, ?_⟩) (by assumption) ?_; rotate_left; (intro w hSw; (try dsimp only at hSw); go_simp; try (with_reducible rfl)); try simp only [Act.put, List.setIfInBounds_toArray, List.set_cons_zero, List.set_cons_succ, List.getElem_toArray, List.getElem_cons_succ, List.getElem_cons_zero]
        refine wpAnyK_take (i := 7) (v := ?_) rfl (by kernel_rfl) (by kernel_rfl) (by kernel_rfl) (by kernel_rfl) (fun _ _ _ h => h) (Or.inl ⟨by rfl, ?_⟩) (by assumption) ?_; rotate_left; (intro w hSw; (try dsimp only at hSw); go_simp; try (with_reducible rfl)); try simp only [Act.put, List.setIfInBounds_toArray, List.set_cons_zero, List.set_cons_succ, List.getElem_toArray, List.getElem_cons_succ, List.getElem_cons_zero]
        refine wpAnyK_take (i := 8) (v := ?_) rfl (by kernel_rfl) (by kernel_rfl) (by kernel_rfl) (by kernel_rfl) (fun _ _ _ h => h) (Or.inl ⟨by rfl, ?_⟩) (by assumption) ?_; rotate_left; (intro w hSw; (try dsimp only at hSw); go_simp; try (with_reducible rfl)); try simp only [Act.put, List.setIfInBounds_toArray, List.set_cons_zero, List.set_cons_succ, List.getElem_toArray, List.getElem_cons_succ, List.getElem_cons_zero]
        refine wpAnyK_take (i := 9) (v := ?_) rfl (by kernel_rfl) (by kernel_rfl) (by kernel_rfl) (by kernel_rfl) (fun _ _ _ h => h) (Or.inl ⟨by rfl, ?_⟩) (by assumption) ?_; rotate_left; (intro w hSw; (try dsimp only at hSw); go_simp; try (with_reducible rfl)); try simp only [Act.put, List.setIfInBounds_toArray, List.set_cons_zero, List.set_cons_succ, List.getElem_toArray, List.getElem_cons_succ, List.getElem_cons_zero]
        refine wpAnyK_take (i := 10) (v := ?_) rfl (by kernel_rfl) (by kernel_rfl) (by kernel_rfl) (by kernel_rfl) (fun _ _ _ h => h) (Or.inl ⟨by rfl, ?_⟩) (by assumption) ?_; rotate_left; (intro w hSw; (try dsimp only at hSw); go_simp; try (with_reducible rfl)); try simp only [Act.put, List.setIfInBounds_toArray, List.set_cons_zero, List.set_cons_succ, List.getElem_toArray, List.getElem_cons_succ, List.getElem_cons_zero]
        refine wpAnyK_one (i := 11) (by kernel_rfl) rfl (fun K hK => ?_); go_simp
        refine hK.out _ _ (by (try dsimp only); (first | (go_keep; done) | (go_simp; done) | exact ⟨y0, y1, y2⟩ | exact ⟨k0, k1, k2⟩ | exact ⟨j0, j1, j2⟩)) (fun hHeld => ?_); clear hK K; try simp only [Act.put, List.setIfInBounds_toArray, List.set_cons_zero, List.set_cons_succ, List.getElem_toArray, List.getElem_cons_succ, List.getElem_cons_zero]
        refine wpAnyK_one (i := 12) (by kernel_rfl) rfl (fun K hK => ?_)
        refine step_append_any _ rfl (.tmp 23) (.tmp 34) 57 rfl (w.heap.size + 1) 62 jj _ 4 32 Try.underlying57 hjj hy0 hy1 hy2 rfl (by omega) _ (rRepK P (rps S) k).length _ rfl HOK.out _ _ 1 1 _ rfl HMS.out g1 (by unfold maxLen; omega) (by omega) HDS.out ?_; intro v' w5 ho hgw hat; have HW9 := Kept.mk (HW6.out.app (m := ⟨2, k, x, (n.x.ep : Int) + 1⟩) hgw ho); have HNB9 := Kept.mk (Blk.beside (HNB.out.alloc _).drew hgw HOK.out (by decide)); have y0 := HW9.out.bx.cell 0 (v := .slice (some ⟨S.gp, 0, none⟩) P.length S.kp) rfl; have y1 := HNB9.out.cell 0 (v := .int .i64 n.x.ep) rfl; have y2 : w5.cell? ⟨S.gp, k, none⟩ = some (.int .i64 x) := (HH.out.par.new_ HW9.out.blw).int vl |> fun ⟨x', hx', hc⟩ => (by have : parI P k = x' := (by simp [parI, hx']); rw [HPX.out] at this; rw [this]; exact hc); clear ho hgw hat
        refine hK.out _ _ (by (try dsimp only); (first | (go_keep; done) | (go_simp; done) | exact ⟨y0, y1, y2⟩ | exact ⟨k0, k1, k2⟩ | exact ⟨j0, j1, j2⟩)) (fun hHeld => ?_); clear hK K; try simp only [Act.put, List.setIfInBounds_toArray, List.set_cons_zero, List.set_cons_succ, List.getElem_toArray, List.getElem_cons_succ, List.getElem_cons_zero]
        refine wpAnyK_last (by kernel_rfl) rfl (fun K hK => ?_); go_simp
        refine hK.out _ _ ?_; clear hK K; try simp only [Act.put, List.setIfInBounds_toArray, List.set_cons_zero, List.set_cons_succ, List.getElem_toArray, List.getElem_cons_succ, List.getElem_cons_zero]
        refine wpAnyK_done (by kernel_rfl) ?_ _
        have f1 := HNB9.out.cell 1 (v := .int .i64 n.x.ph) rfl
        have zn9 := HNB9.out.lt
        clear y0 y1 y2 k0 k1 k2 j0 j1 j2 b0 b1 d0 d1 d3 hHeld
        go_wp2_with fail
        go_roundw
        case rel => exact ⟨k + 1, by omega, by go_num, ⟨by rw [HSX.out]; unfold riseP; rw [HPX.out]; exact HW9.out⟩⟩
        case measure => simp [intOf]; omega
      · have hs : rSend P n.x k = sndK (kids P k) n.x.L 1 k ((n.x.ep : Int) + 1) := by unfold rSend sndK; rw [if_pos hp]
        rw [hs] at HSX
        have HLN := Kept.mk (HL.out n (List.mem_of_getElem? HNN.out) (.inl hp))
        obtain ⟨q1, r1⟩ := z_yes (show (n.x.ph : Int) = 1 by omega)
        obtain ⟨q2, r2⟩ := z_no (show (n.x.ph : Int) ≠ 2 by omega)
        obtain ⟨q3, r3⟩ := z_no (show (n.x.ph : Int) ≠ 3 by omega)
        have hkl := kids_len P k
        obtain ⟨gl, HGL, HLR⟩ : ∃ gl, Kept (n.A = some ⟨gl, 0, none⟩) ∧ Kept (OwnAt w gl 4 1 ycell n.x.L) := by
          obtain ⟨g, h1, h2⟩ := HH.out.ans n (List.mem_of_getElem? HNN.out) (by intro e; have := HLN.out; rw [e] at this; simp at this; omega)
          exact ⟨g, ⟨h1⟩, ⟨h2⟩⟩
        have HKLT : Kept (∀ i c, (kids P k)[i]? = some c → c < P.length) := ⟨fun i c => kid_lt⟩
        clear hs hp
        go_wp2_with ((go_at_call 57; refine (kids_c _ P S k HAX.out).mono ?_; rintro e w2 ⟨Ak, kk, rfl, ho, hb⟩; have HR2 := Kept.mk (HRX.out.new_ hb); have HNB2 := Kept.mk (HNX.out.new_ hb); have HKD2 := Kept.mk (KidAt.of_own ho rfl); clear ho hb))
        rw [← hgN] at HNB2 ⊢
        obtain ⟨KS, hK⟩ : ∃ KS, kids P k = KS := ⟨_, rfl⟩
        rw [hK] at hkl HKD2 HKLT HSX ⊢
        clear hW1 n0 n1 n2 n3 c0 c1 b0 b1 d0 d1 d3 zb zn hK HNB HA1 hgN
        go_loopw [3, 7] (fun v3 v7 wr2 => ∃ i : Nat, i ≤ KS.length ∧ v7 = .int .i64 i ∧ Kept (RepW w wr2 P S (rRepK P (rps S) k ++ sndK (KS.take i) n.x.L 1 k ((n.x.ep : Int) + 1)) v3) ∧ Kept (Blk wr2 gN 68 #[.int .i64 n.x.ep, .int .i64 n.x.ph, .bool n.x.dr, .slice n.A n.x.L.length n.k]) ∧ Kept (KidAt wr2 Ak KS)) (fun _ v7 _ => KS.length - (intOf v7).toNat)
        case atStart => exact ⟨0, Nat.zero_le _, rfl, ⟨by simpa [sndK] using HR2.out⟩, HNB2, HKD2⟩
        case round =>
          clear HR2 HNB2 HKD2
          obtain ⟨i, hi, rfl, HRW, HNBR, HKDR⟩ := hrel
          by_cases hit : i < KS.length
          · obtain ⟨c, gk, hc, hAk, zk, hcell⟩ := HKDR.out.cell hit
            have hcl := HKLT.out i c hc
            obtain ⟨y, hy⟩ := get_some (l := n.x.L) (k := c) (by rw [HLN.out]; exact hcl)
            have hyc := (HLR.out.new_ HRW.out.blw).cell hy (j := 0) rfl
            have zl := (HLR.out.new_ HRW.out.blw).lt
            simp only [Nat.add_zero, Nat.mul_one] at hyc
            have hcL : c < n.x.L.length := by rw [HLN.out]; exact hcl
            have HY : Kept (n.x.L.getD c false = y) := ⟨by simp [hy]⟩
            have HKC := Kept.mk hc
            have HKA := Kept.mk hAk
            have d0 := HNBR.out.cell 0 (v := .int .i64 n.x.ep) rfl
            have d1 := HNBR.out.cell 1 (v := .int .i64 n.x.ph) rfl
            have d3 := HNBR.out.cell 3 (v := .slice n.A n.x.L.length n.k) rfl
            have zn := HNBR.out.lt
            rw [HGL.out] at d3
            rw [hAk]
            clear hc hAk hy
            cases y with
            | true =>
              have HSN := Kept.mk (sndK_yes (kind := 1) (v := k) (ep := ((n.x.ep : Int) + 1)) HKC.out HY.out)
              generalize n.x.L.length = ll at *
              go_wp2_with fail
              go_quiet (fail)
              go_wp2_with fail
              go_roundw
              case rel => exact ⟨i + 1, by omega, by go_num, ⟨by rw [HSN.out]; exact HRW.out.new_ (by repeat (first | exact Below.refl _ _ | refine dN ?_ _ | refine bdrew ?_))⟩, ⟨HNBR.out.new_ (by repeat (first | exact Below.refl _ _ | refine dN ?_ _ | refine bdrew ?_))⟩, ⟨by rw [← HKA.out]; exact HKDR.out.new_ (by repeat (first | exact Below.refl _ _ | refine dN ?_ _ | refine bdrew ?_))⟩⟩
              case measure => simp [intOf]; omega
            | false =>
              have HSN := Kept.mk (sndK_no (kind := 1) (v := k) (ep := ((n.x.ep : Int) + 1)) HKC.out HY.out)
              have hsl := sndK_len (KS.take i) n.x.L 1 k ((n.x.ep : Int) + 1)
              have htl := List.length_take_le' i KS
              have hXL : (rRepK P (rps S) k ++ sndK (KS.take i) n.x.L 1 k ((n.x.ep : Int) + 1)).length ≤ 1000001000000 + i := by rw [List.length_append]; have : (KS.take i).length ≤ i := List.length_take_le _ _; omega
              generalize hll : n.x.L.length = ll at *
              go_wp2_with fail
              go_quiet (fail)
              go_upto_region 15 with fail
              obtain ⟨WL, hWL⟩ : ∃ WL, WL = wr.drewN nq := ⟨_, rfl⟩
              have hbL : Below wr.heap.size wr WL := by rw [hWL]; exact dN (Below.refl _ _) _
              rw [← hWL]
              replace HRW := Kept.mk (HRW.out.new_ hbL)
              replace HNBR := Kept.mk (HNBR.out.new_ hbL)
              replace HKDR := Kept.mk (HKDR.out.new_ hbL)
              have b0 := HNBR.out.cell 0 (v := .int .i64 n.x.ep) rfl
              obtain ⟨c', g', hc', hA', zk', b1⟩ := HKDR.out.cell hit
              obtain rfl : g' = gk := by rw [HKA.out] at hA'; injection hA' with e; injection e with e; exact e.symm
              obtain rfl : c' = c := by rw [HKC.out] at hc'; injection hc' with e; exact e.symm
              have zn' := HNBR.out.lt
              clear hc' hA' hbL hWL hyc hcell d0 d1 d3 zk zn
              have k0 : WL.drew.cell? ⟨gN, 0, none⟩ = some (.int .i64 n.x.ep) := b0
              have k1 : WL.drew.cell? ⟨g', i, none⟩ = some (.int .i64 (c' : Nat)) := b1
              have HW6 : Kept (RepW w (WL.alloc (.cells #[Value.int .i64 1, Value.int .i64 k, Value.int .i64 (c' : Nat), Value.int .i64 ((n.x.ep : Int) + 1)] 62)).drew P S (rRepK P (rps S) k ++ sndK (KS.take i) n.x.L 1 k ((n.x.ep : Int) + 1)) _) := ⟨HRW.out.new_ (bdrew ((Below.refl _ _).alloc (Nat.le_refl _) _))⟩
              have HOK := Kept.mk HW6.out.own
              have HMS := Kept.mk ((reads_made WL #[Value.int .i64 1, Value.int .i64 k, Value.int .i64 (c' : Nat), Value.int .i64 ((n.x.ep : Int) + 1)] 62 4 1 rfl).drew)
              have HDS : Kept (w.heap.size + 1 ≤ (WL.alloc (.cells #[Value.int .i64 1, Value.int .i64 k, Value.int .i64 (c' : Nat), Value.int .i64 ((n.x.ep : Int) + 1)] 62)).drew.heap.size) := ⟨HW6.out.bx.lt⟩
              have g1 : ∀ u ∈ (#[Value.int .i64 1, Value.int .i64 k, Value.int .i64 (c' : Nat), Value.int .i64 ((n.x.ep : Int) + 1)]).toList, u.oneCell' = true := (by intro u hu; simp at hu; rcases hu with rfl | rfl | rfl | rfl <;> rfl)
              have j0 : (WL.alloc (.cells #[Value.int .i64 1, Value.int .i64 k, Value.int .i64 (c' : Nat), Value.int .i64 ((n.x.ep : Int) + 1)] 62)).drew.cell? ⟨gN, 0, none⟩ = some (.int .i64 n.x.ep) := (World.cell?_alloc_lt WL _ _ (by show _ < WL.heap.size; assumption)).trans k0
              have j1 : (WL.alloc (.cells #[Value.int .i64 1, Value.int .i64 k, Value.int .i64 (c' : Nat), Value.int .i64 ((n.x.ep : Int) + 1)] 62)).drew.cell? ⟨g', i, none⟩ = some (.int .i64 (c' : Nat)) := (World.cell?_alloc_lt WL _ _ (by show _ < WL.heap.size; assumption)).trans k1
              refine wp_region_K (S := (fun w' => w'.cell? ⟨gN, 0, none⟩ = some (.int .i64 n.x.ep) ∧ w'.cell? ⟨g', i, none⟩ = some (.int .i64 (c' : Nat)))) (k := 12) (by kernel_rfl) (by (try dsimp only); (first | (go_keep; done) | (go_simp; done) | exact ⟨y0, y1⟩ | exact ⟨k0, k1⟩ | exact ⟨j0, j1⟩)) (fun hHeld => ?_)
              refine wpAnyK_take (i := 0) (v := ?_) rfl (by kernel_rfl) (by kernel_rfl) (by kernel_rfl) (by kernel_rfl) (fun _ _ _ h => h) (Or.inl ⟨by rfl, ?_⟩) (by assumption) ?_; rotate_left; (intro w hSw; (try dsimp only at hSw); go_simp; try (with_reducible rfl)); try simp only [Act.put, List.setIfInBounds_toArray, List.set_cons_zero, List.set_cons_succ, List.getElem_toArray, List.getElem_cons_succ, List.getElem_cons_zero]
              refine wpAnyK_take (i := 1) (v := ?_) rfl (by kernel_rfl) (by kernel_rfl) (by kernel_rfl) (by kernel_rfl) (fun _ _ _ h => h) (Or.inl ⟨by rfl, ?_⟩) (by assumption) ?_; rotate_left; (intro w hSw; (try dsimp only at hSw); go_simp; try (with_reducible rfl)); try simp only [Act.put, List.setIfInBounds_toArray, List.set_cons_zero, List.set_cons_succ, List.getElem_toArray, List.getElem_cons_succ, List.getElem_cons_zero]
              refine wpAnyK_take (i := 2) (v := ?_) rfl (by kernel_rfl) (by kernel_rfl) (by kernel_rfl) (by kernel_rfl) (fun _ _ _ h => h) (Or.inl ⟨by rfl, ?_⟩) (by assumption) ?_; rotate_left; (intro w hSw; (try dsimp only at hSw); go_simp; try (with_reducible rfl)); try simp only [Act.put, List.setIfInBounds_toArray, List.set_cons_zero, List.set_cons_succ, List.getElem_toArray, List.getElem_cons_succ, List.getElem_cons_zero]
              refine wpAnyK_take (i := 3) (v := ?_) rfl (by kernel_rfl) (by kernel_rfl) (by kernel_rfl) (by kernel_rfl) (fun _ _ _ h => h) (Or.inl ⟨by rfl, ?_⟩) (by assumption) ?_; rotate_left; (intro w hSw; (try dsimp only at hSw); go_simp; try (with_reducible rfl)); try simp only [Act.put, List.setIfInBounds_toArray, List.set_cons_zero, List.set_cons_succ, List.getElem_toArray, List.getElem_cons_succ, List.getElem_cons_zero]
              refine wpAnyK_take (i := 4) (v := ?_) rfl (by kernel_rfl) (by kernel_rfl) (by kernel_rfl) (by kernel_rfl) (fun _ _ _ h => h) (Or.inl ⟨by rfl, ?_⟩) (by assumption) ?_; rotate_left; (intro w hSw; (try dsimp only at hSw); go_simp; try (with_reducible rfl)); try simp only [Act.put, List.setIfInBounds_toArray, List.set_cons_zero, List.set_cons_succ, List.getElem_toArray, List.getElem_cons_succ, List.getElem_cons_zero]
              refine wpAnyK_take (i := 5) (v := ?_) rfl (by kernel_rfl) (by kernel_rfl) (by kernel_rfl) (by kernel_rfl) (fun _ _ _ h => h) (Or.inl ⟨by rfl, ?_⟩) (by assumption) ?_; rotate_left; (intro w hSw; (try dsimp only at hSw); go_simp; try (with_reducible rfl)); try simp only [Act.put, List.setIfInBounds_toArray, List.set_cons_zero, List.set_cons_succ, List.getElem_toArray, List.getElem_cons_succ, List.getElem_cons_zero]
              refine wpAnyK_take (i := 6) (v := ?_) rfl (by kernel_rfl) (by kernel_rfl) (by kernel_rfl) (by kernel_rfl) (fun _ _ _ h => h) (Or.inl ⟨by rfl, ?_⟩) (by assumption) ?_; rotate_left; (intro w hSw; (try dsimp only at hSw); go_simp; try (with_reducible rfl)); try simp only [Act.put, List.setIfInBounds_toArray, List.set_cons_zero, List.set_cons_succ, List.getElem_toArray, List.getElem_cons_succ, List.getElem_cons_zero]
              refine wpAnyK_take (i := 7) (v := ?_) rfl (by kernel_rfl) (by kernel_rfl) (by kernel_rfl) (by kernel_rfl) (fun _ _ _ h => h) (Or.inl ⟨by rfl, ?_⟩) (by assumption) ?_; rotate_left; (intro w hSw; (try dsimp only at hSw); go_simp; try (with_reducible rfl)); try simp only [Act.put, List.setIfInBounds_toArray, List.set_cons_zero, List.set_cons_succ, List.getElem_toArray, List.getElem_cons_succ, List.getElem_cons_zero]
              refine wpAnyK_take (i := 8) (v := ?_) rfl (by kernel_rfl) (by kernel_rfl) (by kernel_rfl) (by kernel_rfl) (fun _ _ _ h => h) (Or.inl ⟨by rfl, ?_⟩) (by assumption) ?_; rotate_left; (intro w hSw; (try dsimp only at hSw); go_simp; try (with_reducible rfl)); try simp only [Act.put, List.setIfInBounds_toArray, List.set_cons_zero, List.set_cons_succ, List.getElem_toArray, List.getElem_cons_succ, List.getElem_cons_zero]
              refine wpAnyK_take (i := 9) (v := ?_) rfl (by kernel_rfl) (by kernel_rfl) (by kernel_rfl) (by kernel_rfl) (fun _ _ _ h => h) (Or.inl ⟨by rfl, ?_⟩) (by assumption) ?_; rotate_left; (intro w hSw; (try dsimp only at hSw); go_simp; try (with_reducible rfl)); try simp only [Act.put, List.setIfInBounds_toArray, List.set_cons_zero, List.set_cons_succ, List.getElem_toArray, List.getElem_cons_succ, List.getElem_cons_zero]
              refine wpAnyK_one (i := 10) (by kernel_rfl) rfl (fun K hK => ?_); go_simp
              refine hK.out _ _ (by (try dsimp only); (first | (go_keep; done) | (go_simp; done) | exact ⟨y0, y1⟩ | exact ⟨k0, k1⟩ | exact ⟨j0, j1⟩)) (fun hHeld => ?_); clear hK K; try simp only [Act.put, List.setIfInBounds_toArray, List.set_cons_zero, List.set_cons_succ, List.getElem_toArray, List.getElem_cons_succ, List.getElem_cons_zero]
              refine wpAnyK_one (i := 11) (by kernel_rfl) rfl (fun K hK => ?_)
              refine step_append_any _ rfl (.tmp 64) (.tmp 74) 57 rfl (w.heap.size + 1) 62 jj _ 4 32 Try.underlying57 hjj hy0 hy1 hy2 rfl (by omega) _ (rRepK P (rps S) k ++ sndK (KS.take i) n.x.L 1 k ((n.x.ep : Int) + 1)).length _ rfl HOK.out _ _ 1 1 _ rfl HMS.out g1 (by unfold maxLen; omega) (by omega) HDS.out ?_; intro v' w5 ho hgw hat; have HW9 := Kept.mk (HW6.out.app (m := ⟨1, k, c', ((n.x.ep : Int) + 1)⟩) hgw ho); have HNB9 := Kept.mk (Blk.beside (HNBR.out.alloc _).drew hgw HOK.out (by decide)); have HKD9 := Kept.mk (KidAt.grown (HKDR.out.new_ (bdrew ((Below.refl _ _).alloc (Nat.le_refl _) _))) hgw HOK.out); have y0 := HNB9.out.cell 0 (v := .int .i64 n.x.ep) rfl; have y1 : w5.cell? ⟨g', i, none⟩ = some (.int .i64 (c' : Nat)) := (HKD9.out.cell hit |> fun ⟨c2, g2, hc2, hA2, _, hcc⟩ => (by rw [HKC.out] at hc2; rw [HKA.out] at hA2; injection hc2 with e1; injection hA2 with e2; injection e2 with e3; rw [e1, e3]; exact hcc)); clear ho hgw hat
              refine hK.out _ _ (by (try dsimp only); (first | (go_keep; done) | (go_simp; done) | exact ⟨y0, y1⟩ | exact ⟨k0, k1⟩ | exact ⟨j0, j1⟩)) (fun hHeld => ?_); clear hK K; try simp only [Act.put, List.setIfInBounds_toArray, List.set_cons_zero, List.set_cons_succ, List.getElem_toArray, List.getElem_cons_succ, List.getElem_cons_zero]
              refine wpAnyK_last (by kernel_rfl) rfl (fun K hK => ?_); go_simp
              refine hK.out _ _ ?_; clear hK K; try simp only [Act.put, List.setIfInBounds_toArray, List.set_cons_zero, List.set_cons_succ, List.getElem_toArray, List.getElem_cons_succ, List.getElem_cons_zero]
              refine wpAnyK_done (by kernel_rfl) ?_ _

              have f1 := HNB9.out.cell 1 (v := .int .i64 n.x.ph) rfl
              clear y0 y1 k0 k1 j0 j1 hHeld
              go_wp2_with fail
              go_roundw
              case rel => exact ⟨i + 1, by omega, by go_num, ⟨by rw [HSN.out, ← List.append_assoc]; exact HW9.out⟩, HNB9, ⟨by rw [← HKA.out]; exact HKD9.out⟩⟩
              case measure => simp [intOf]; omega
          · obtain rfl : i = KS.length := by omega
            have HEN : Kept (RepW w wr P S (rRepK P (rps S) (k + 1)) _) := ⟨by rw [HSX.out]; have := HRW.out; rw [List.take_of_length_le (Nat.le_refl _)] at this; exact this⟩
            go_wp2_with fail
            go_roundw
            case rel => exact ⟨k + 1, by omega, by go_num, HEN⟩
            case measure => simp [intOf]; omega
      · have hs : rSend P n.x k = sndK (kids P k) n.x.L 3 k (n.x.ep : Int) := by unfold rSend sndK; rw [if_neg (by omega), if_neg (by omega), if_pos hp]
        rw [hs] at HSX
        have HLN := Kept.mk (HL.out n (List.mem_of_getElem? HNN.out) (.inr hp))
        obtain ⟨q1, r1⟩ := z_no (show (n.x.ph : Int) ≠ 1 by omega)
        obtain ⟨q2, r2⟩ := z_no (show (n.x.ph : Int) ≠ 2 by omega)
        obtain ⟨q3, r3⟩ := z_yes (show (n.x.ph : Int) = 3 by omega)
        have hkl := kids_len P k
        obtain ⟨gl, HGL, HLR⟩ : ∃ gl, Kept (n.A = some ⟨gl, 0, none⟩) ∧ Kept (OwnAt w gl 4 1 ycell n.x.L) := by
          obtain ⟨g, h1, h2⟩ := HH.out.ans n (List.mem_of_getElem? HNN.out) (by intro e; have := HLN.out; rw [e] at this; simp at this; omega)
          exact ⟨g, ⟨h1⟩, ⟨h2⟩⟩
        have HKLT : Kept (∀ i c, (kids P k)[i]? = some c → c < P.length) := ⟨fun i c => kid_lt⟩
        clear hs hp
        go_wp2_with ((go_at_call 57; refine (kids_c _ P S k HAX.out).mono ?_; rintro e w2 ⟨Ak, kk, rfl, ho, hb⟩; have HR2 := Kept.mk (HRX.out.new_ hb); have HNB2 := Kept.mk (HNX.out.new_ hb); have HKD2 := Kept.mk (KidAt.of_own ho rfl); clear ho hb))
        rw [← hgN] at HNB2 ⊢
        obtain ⟨KS, hK⟩ : ∃ KS, kids P k = KS := ⟨_, rfl⟩
        rw [hK] at hkl HKD2 HKLT HSX ⊢
        clear hW1 n0 n1 n2 n3 c0 c1 b0 b1 d0 d1 d3 zb zn hK HNB HA1 hgN
        go_loopw [3, 7] (fun v3 v7 wr2 => ∃ i : Nat, i ≤ KS.length ∧ v7 = .int .i64 i ∧ Kept (RepW w wr2 P S (rRepK P (rps S) k ++ sndK (KS.take i) n.x.L 3 k (n.x.ep : Int)) v3) ∧ Kept (Blk wr2 gN 68 #[.int .i64 n.x.ep, .int .i64 n.x.ph, .bool n.x.dr, .slice n.A n.x.L.length n.k]) ∧ Kept (KidAt wr2 Ak KS)) (fun _ v7 _ => KS.length - (intOf v7).toNat)
        case atStart => exact ⟨0, Nat.zero_le _, rfl, ⟨by simpa [sndK] using HR2.out⟩, HNB2, HKD2⟩
        case round =>
          clear HR2 HNB2 HKD2
          obtain ⟨i, hi, rfl, HRW, HNBR, HKDR⟩ := hrel
          by_cases hit : i < KS.length
          · obtain ⟨c, gk, hc, hAk, zk, hcell⟩ := HKDR.out.cell hit
            have hcl := HKLT.out i c hc
            obtain ⟨y, hy⟩ := get_some (l := n.x.L) (k := c) (by rw [HLN.out]; exact hcl)
            have hyc := (HLR.out.new_ HRW.out.blw).cell hy (j := 0) rfl
            have zl := (HLR.out.new_ HRW.out.blw).lt
            simp only [Nat.add_zero, Nat.mul_one] at hyc
            have hcL : c < n.x.L.length := by rw [HLN.out]; exact hcl
            have HY : Kept (n.x.L.getD c false = y) := ⟨by simp [hy]⟩
            have HKC := Kept.mk hc
            have HKA := Kept.mk hAk
            have d0 := HNBR.out.cell 0 (v := .int .i64 n.x.ep) rfl
            have d1 := HNBR.out.cell 1 (v := .int .i64 n.x.ph) rfl
            have d3 := HNBR.out.cell 3 (v := .slice n.A n.x.L.length n.k) rfl
            have zn := HNBR.out.lt
            rw [HGL.out] at d3
            rw [hAk]
            clear hc hAk hy
            cases y with
            | true =>
              have HSN := Kept.mk (sndK_yes (kind := 3) (v := k) (ep := (n.x.ep : Int)) HKC.out HY.out)
              generalize n.x.L.length = ll at *
              go_wp2_with fail
              go_quiet (fail)
              go_wp2_with fail
              go_roundw
              case rel => exact ⟨i + 1, by omega, by go_num, ⟨by rw [HSN.out]; exact HRW.out.new_ (by repeat (first | exact Below.refl _ _ | refine dN ?_ _ | refine bdrew ?_))⟩, ⟨HNBR.out.new_ (by repeat (first | exact Below.refl _ _ | refine dN ?_ _ | refine bdrew ?_))⟩, ⟨by rw [← HKA.out]; exact HKDR.out.new_ (by repeat (first | exact Below.refl _ _ | refine dN ?_ _ | refine bdrew ?_))⟩⟩
              case measure => simp [intOf]; omega
            | false =>
              have HSN := Kept.mk (sndK_no (kind := 3) (v := k) (ep := (n.x.ep : Int)) HKC.out HY.out)
              have hsl := sndK_len (KS.take i) n.x.L 3 k (n.x.ep : Int)
              have htl := List.length_take_le' i KS
              have hXL : (rRepK P (rps S) k ++ sndK (KS.take i) n.x.L 3 k (n.x.ep : Int)).length ≤ 1000001000000 + i := by rw [List.length_append]; have : (KS.take i).length ≤ i := List.length_take_le _ _; omega
              generalize hll : n.x.L.length = ll at *
              go_wp2_with fail
              go_quiet (fail)
              go_upto_region 16 with fail
              obtain ⟨WL, hWL⟩ : ∃ WL, WL = wr.drewN nq := ⟨_, rfl⟩
              have hbL : Below wr.heap.size wr WL := by rw [hWL]; exact dN (Below.refl _ _) _
              rw [← hWL]
              replace HRW := Kept.mk (HRW.out.new_ hbL)
              replace HNBR := Kept.mk (HNBR.out.new_ hbL)
              replace HKDR := Kept.mk (HKDR.out.new_ hbL)
              have b0 := HNBR.out.cell 0 (v := .int .i64 n.x.ep) rfl
              obtain ⟨c', g', hc', hA', zk', b1⟩ := HKDR.out.cell hit
              obtain rfl : g' = gk := by rw [HKA.out] at hA'; injection hA' with e; injection e with e; exact e.symm
              obtain rfl : c' = c := by rw [HKC.out] at hc'; injection hc' with e; exact e.symm
              have zn' := HNBR.out.lt
              clear hc' hA' hbL hWL hyc hcell d0 d1 d3 zk zn
              have k0 : WL.drew.cell? ⟨gN, 0, none⟩ = some (.int .i64 n.x.ep) := b0
              have k1 : WL.drew.cell? ⟨g', i, none⟩ = some (.int .i64 (c' : Nat)) := b1
              have HW6 : Kept (RepW w (WL.alloc (.cells #[Value.int .i64 3, Value.int .i64 k, Value.int .i64 (c' : Nat), Value.int .i64 (n.x.ep : Int)] 62)).drew P S (rRepK P (rps S) k ++ sndK (KS.take i) n.x.L 3 k (n.x.ep : Int)) _) := ⟨HRW.out.new_ (bdrew ((Below.refl _ _).alloc (Nat.le_refl _) _))⟩
              have HOK := Kept.mk HW6.out.own
              have HMS := Kept.mk ((reads_made WL #[Value.int .i64 3, Value.int .i64 k, Value.int .i64 (c' : Nat), Value.int .i64 (n.x.ep : Int)] 62 4 1 rfl).drew)
              have HDS : Kept (w.heap.size + 1 ≤ (WL.alloc (.cells #[Value.int .i64 3, Value.int .i64 k, Value.int .i64 (c' : Nat), Value.int .i64 (n.x.ep : Int)] 62)).drew.heap.size) := ⟨HW6.out.bx.lt⟩
              have g1 : ∀ u ∈ (#[Value.int .i64 3, Value.int .i64 k, Value.int .i64 (c' : Nat), Value.int .i64 (n.x.ep : Int)]).toList, u.oneCell' = true := (by intro u hu; simp at hu; rcases hu with rfl | rfl | rfl | rfl <;> rfl)
              have j0 : (WL.alloc (.cells #[Value.int .i64 3, Value.int .i64 k, Value.int .i64 (c' : Nat), Value.int .i64 (n.x.ep : Int)] 62)).drew.cell? ⟨gN, 0, none⟩ = some (.int .i64 n.x.ep) := (World.cell?_alloc_lt WL _ _ (by show _ < WL.heap.size; assumption)).trans k0
              have j1 : (WL.alloc (.cells #[Value.int .i64 3, Value.int .i64 k, Value.int .i64 (c' : Nat), Value.int .i64 (n.x.ep : Int)] 62)).drew.cell? ⟨g', i, none⟩ = some (.int .i64 (c' : Nat)) := (World.cell?_alloc_lt WL _ _ (by show _ < WL.heap.size; assumption)).trans k1
              refine wp_region_K (S := (fun w' => w'.cell? ⟨gN, 0, none⟩ = some (.int .i64 n.x.ep) ∧ w'.cell? ⟨g', i, none⟩ = some (.int .i64 (c' : Nat)))) (k := 11) (by kernel_rfl) (by (try dsimp only); (first | (go_keep; done) | (go_simp; done) | exact ⟨y0, y1⟩ | exact ⟨k0, k1⟩ | exact ⟨j0, j1⟩)) (fun hHeld => ?_)
              refine wpAnyK_take (i := 0) (v := ?_) rfl (by kernel_rfl) (by kernel_rfl) (by kernel_rfl) (by kernel_rfl) (fun _ _ _ h => h) (Or.inl ⟨by rfl, ?_⟩) (by assumption) ?_; rotate_left; (intro w hSw; (try dsimp only at hSw); go_simp; try (with_reducible rfl)); try simp only [Act.put, List.setIfInBounds_toArray, List.set_cons_zero, List.set_cons_succ, List.getElem_toArray, List.getElem_cons_succ, List.getElem_cons_zero]
              refine wpAnyK_take (i := 1) (v := ?_) rfl (by kernel_rfl) (by kernel_rfl) (by kernel_rfl) (by kernel_rfl) (fun _ _ _ h => h) (Or.inl ⟨by rfl, ?_⟩) (by assumption) ?_; rotate_left; (intro w hSw; (try dsimp only at hSw); go_simp; try (with_reducible rfl)); try simp only [Act.put, List.setIfInBounds_toArray, List.set_cons_zero, List.set_cons_succ, List.getElem_toArray, List.getElem_cons_succ, List.getElem_cons_zero]
              refine wpAnyK_take (i := 2) (v := ?_) rfl (by kernel_rfl) (by kernel_rfl) (by kernel_rfl) (by kernel_rfl) (fun _ _ _ h => h) (Or.inl ⟨by rfl, ?_⟩) (by assumption) ?_; rotate_left; (intro w hSw; (try dsimp only at hSw); go_simp; try (with_reducible rfl)); try simp only [Act.put, List.setIfInBounds_toArray, List.set_cons_zero, List.set_cons_succ, List.getElem_toArray, List.getElem_cons_succ, List.getElem_cons_zero]
              refine wpAnyK_take (i := 3) (v := ?_) rfl (by kernel_rfl) (by kernel_rfl) (by kernel_rfl) (by kernel_rfl) (fun _ _ _ h => h) (Or.inl ⟨by rfl, ?_⟩) (by assumption) ?_; rotate_left; (intro w hSw; (try dsimp only at hSw); go_simp; try (with_reducible rfl)); try simp only [Act.put, List.setIfInBounds_toArray, List.set_cons_zero, List.set_cons_succ, List.getElem_toArray, List.getElem_cons_succ, List.getElem_cons_zero]
              refine wpAnyK_take (i := 4) (v := ?_) rfl (by kernel_rfl) (by kernel_rfl) (by kernel_rfl) (by kernel_rfl) (fun _ _ _ h => h) (Or.inl ⟨by rfl, ?_⟩) (by assumption) ?_; rotate_left; (intro w hSw; (try dsimp only at hSw); go_simp; try (with_reducible rfl)); try simp only [Act.put, List.setIfInBounds_toArray, List.set_cons_zero, List.set_cons_succ, List.getElem_toArray, List.getElem_cons_succ, List.getElem_cons_zero]
              refine wpAnyK_take (i := 5) (v := ?_) rfl (by kernel_rfl) (by kernel_rfl) (by kernel_rfl) (by kernel_rfl) (fun _ _ _ h => h) (Or.inl ⟨by rfl, ?_⟩) (by assumption) ?_; rotate_left; (intro w hSw; (try dsimp only at hSw); go_simp; try (with_reducible rfl)); try simp only [Act.put, List.setIfInBounds_toArray, List.set_cons_zero, List.set_cons_succ, List.getElem_toArray, List.getElem_cons_succ, List.getElem_cons_zero]
              refine wpAnyK_take (i := 6) (v := ?_) rfl (by kernel_rfl) (by kernel_rfl) (by kernel_rfl) (by kernel_rfl) (fun _ _ _ h => h) (Or.inl ⟨by rfl, ?_⟩) (by assumption) ?_; rotate_left; (intro w hSw; (try dsimp only at hSw); go_simp; try (with_reducible rfl)); try simp only [Act.put, List.setIfInBounds_toArray, List.set_cons_zero, List.set_cons_succ, List.getElem_toArray, List.getElem_cons_succ, List.getElem_cons_zero]
              refine wpAnyK_take (i := 7) (v := ?_) rfl (by kernel_rfl) (by kernel_rfl) (by kernel_rfl) (by kernel_rfl) (fun _ _ _ h => h) (Or.inl ⟨by rfl, ?_⟩) (by assumption) ?_; rotate_left; (intro w hSw; (try dsimp only at hSw); go_simp; try (with_reducible rfl)); try simp only [Act.put, List.setIfInBounds_toArray, List.set_cons_zero, List.set_cons_succ, List.getElem_toArray, List.getElem_cons_succ, List.getElem_cons_zero]
              refine wpAnyK_take (i := 8) (v := ?_) rfl (by kernel_rfl) (by kernel_rfl) (by kernel_rfl) (by kernel_rfl) (fun _ _ _ h => h) (Or.inl ⟨by rfl, ?_⟩) (by assumption) ?_; rotate_left; (intro w hSw; (try dsimp only at hSw); go_simp; try (with_reducible rfl)); try simp only [Act.put, List.setIfInBounds_toArray, List.set_cons_zero, List.set_cons_succ, List.getElem_toArray, List.getElem_cons_succ, List.getElem_cons_zero]
              refine wpAnyK_one (i := 9) (by kernel_rfl) rfl (fun K hK => ?_); go_simp
              refine hK.out _ _ (by (try dsimp only); (first | (go_keep; done) | (go_simp; done) | exact ⟨y0, y1⟩ | exact ⟨k0, k1⟩ | exact ⟨j0, j1⟩)) (fun hHeld => ?_); clear hK K; try simp only [Act.put, List.setIfInBounds_toArray, List.set_cons_zero, List.set_cons_succ, List.getElem_toArray, List.getElem_cons_succ, List.getElem_cons_zero]
              refine wpAnyK_one (i := 10) (by kernel_rfl) rfl (fun K hK => ?_)
              refine step_append_any _ rfl (.tmp 76) (.tmp 85) 57 rfl (w.heap.size + 1) 62 jj _ 4 32 Try.underlying57 hjj hy0 hy1 hy2 rfl (by omega) _ (rRepK P (rps S) k ++ sndK (KS.take i) n.x.L 3 k (n.x.ep : Int)).length _ rfl HOK.out _ _ 1 1 _ rfl HMS.out g1 (by unfold maxLen; omega) (by omega) HDS.out ?_; intro v' w5 ho hgw hat; have HW9 := Kept.mk (HW6.out.app (m := ⟨3, k, c', (n.x.ep : Int)⟩) hgw ho); have HNB9 := Kept.mk (Blk.beside (HNBR.out.alloc _).drew hgw HOK.out (by decide)); have HKD9 := Kept.mk (KidAt.grown (HKDR.out.new_ (bdrew ((Below.refl _ _).alloc (Nat.le_refl _) _))) hgw HOK.out); have y0 := HNB9.out.cell 0 (v := .int .i64 n.x.ep) rfl; have y1 : w5.cell? ⟨g', i, none⟩ = some (.int .i64 (c' : Nat)) := (HKD9.out.cell hit |> fun ⟨c2, g2, hc2, hA2, _, hcc⟩ => (by rw [HKC.out] at hc2; rw [HKA.out] at hA2; injection hc2 with e1; injection hA2 with e2; injection e2 with e3; rw [e1, e3]; exact hcc)); clear ho hgw hat
              refine hK.out _ _ (by (try dsimp only); (first | (go_keep; done) | (go_simp; done) | exact ⟨y0, y1⟩ | exact ⟨k0, k1⟩ | exact ⟨j0, j1⟩)) (fun hHeld => ?_); clear hK K; try simp only [Act.put, List.setIfInBounds_toArray, List.set_cons_zero, List.set_cons_succ, List.getElem_toArray, List.getElem_cons_succ, List.getElem_cons_zero]
              refine wpAnyK_last (by kernel_rfl) rfl (fun K hK => ?_); go_simp
              refine hK.out _ _ ?_; clear hK K; try simp only [Act.put, List.setIfInBounds_toArray, List.set_cons_zero, List.set_cons_succ, List.getElem_toArray, List.getElem_cons_succ, List.getElem_cons_zero]
              refine wpAnyK_done (by kernel_rfl) ?_ _

              have f1 := HNB9.out.cell 1 (v := .int .i64 n.x.ph) rfl
              clear y0 y1 k0 k1 j0 j1 hHeld
              go_wp2_with fail
              go_roundw
              case rel => exact ⟨i + 1, by omega, by go_num, ⟨by rw [HSN.out, ← List.append_assoc]; exact HW9.out⟩, HNB9, ⟨by rw [← HKA.out]; exact HKD9.out⟩⟩
              case measure => simp [intOf]; omega
          · obtain rfl : i = KS.length := by omega
            have HEN : Kept (RepW w wr P S (rRepK P (rps S) (k + 1)) _) := ⟨by rw [HSX.out]; have := HRW.out; rw [List.take_of_length_le (Nat.le_refl _)] at this; exact this⟩
            go_wp2_with fail
            go_roundw
            case rel => exact ⟨k + 1, by omega, by go_num, HEN⟩
            case measure => simp [intOf]; omega
      · have hs : rSend P n.x k = [] := by unfold rSend; rw [if_neg hp.1, if_neg hp.2.1, if_neg hp.2.2]
        rw [hs, List.append_nil] at HSX
        obtain ⟨q1, r1⟩ := z_no (show (n.x.ph : Int) ≠ 1 by omega)
        obtain ⟨q2, r2⟩ := z_no (show (n.x.ph : Int) ≠ 2 by omega)
        obtain ⟨q3, r3⟩ := z_no (show (n.x.ph : Int) ≠ 3 by omega)
        go_wp2_with fail
        rw [← hW1]
        go_roundw
        case rel => exact ⟨k + 1, by omega, by go_num, ⟨by rw [HSX.out]; exact HR1.out⟩⟩
        case measure => simp [intOf]; omega
    · obtain rfl : k = P.length := by omega
      obtain ⟨A, kap, hv3⟩ := own_slice HRR.out.own
      subst hv3
      clear hlt
      go_wp2_with fail
      go_ret
      exact ⟨A, kap, rfl, own_base HRR.out.own (Nat.le_succ _), HRR.out.blw⟩
end
end Go.Proofs.Ytibmbhnpmfgclaa
