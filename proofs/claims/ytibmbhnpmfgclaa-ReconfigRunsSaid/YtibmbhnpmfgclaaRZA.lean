/- Reconfig: the reference's Children, Root, down, all, and the statements' epoch. -/
import Derived.Test.YtibmbhnpmfgclaaRZ
namespace Go.Proofs.Ytibmbhnpmfgclaa
set_option linter.unusedVariables false
set_option linter.unusedSimpArgs false
open Go.RowKit Go.Maps
def kcell (i : Nat) : List Value := [.int .i64 (i : Int)]
theorem kcell_len (i : Nat) : (kcell i).length = 1 := rfl
def kidK (P : List Int) (v k : Nat) : List Nat := (List.range k).filter fun i => P[i]? == some (v : Int)
theorem kidK_yes {P : List Int} {v k : Nat} {x : Int} (hx : P[k]? = some x) (h : x = v) : kidK P v (k + 1) = kidK P v k ++ [k] := by
  unfold kidK; rw [List.range_succ, List.filter_append, List.filter_cons_of_pos (by simp [hx, h])]; simp
theorem kidK_no {P : List Int} {v k : Nat} {x : Int} (hx : P[k]? = some x) (h : x ≠ v) : kidK P v (k + 1) = kidK P v k := by
  unfold kidK; rw [List.range_succ, List.filter_append, List.filter_cons_of_neg (by simp [hx, h])]; simp
theorem kidK_len (P : List Int) (v k : Nat) : (kidK P v k).length ≤ k := by
  have := List.length_filter_le (fun i => P[i]? == some (v : Int)) (List.range k)
  rwa [List.length_range] at this
theorem kidK_all (P : List Int) (v : Nat) : kidK P v P.length = kids P v := rfl
/-- The row of parents, and what is read of it. -/
theorem OwnAt.int {w : World} {g : Nat} {P : List Int} (h : OwnAt w g 3 1 icell P) {k : Nat} (hk : k < P.length) : ∃ x, P[k]? = some x ∧ w.cell? ⟨g, k, none⟩ = some (.int .i64 x) := by
  obtain ⟨x, hx⟩ := get_some hk
  have := h.cell hx (j := 0) rfl
  exact ⟨x, hx, by simpa using this⟩
def rotK (P : List Int) : Nat := (P.findIdx? (fun x => decide (x < 0))).getD 0
theorem rotK_yes {P : List Int} {k : Nat} {x : Int} (hx : P[k]? = some x) (h : x < 0) (hb : ∀ i y, i < k → P[i]? = some y → ¬ y < 0) : rotK P = k := by
  have : P.findIdx? (fun x => decide (x < 0)) = some k := by
    have hk := (List.getElem?_eq_some_iff.1 hx).1
    rw [List.findIdx?_eq_some_iff_getElem]
    refine ⟨hk, ?_, fun j hj => ?_⟩
    · have := (List.getElem?_eq_some_iff.1 hx).2; simp [this, h]
    · have := hb j P[j] hj (List.getElem?_eq_getElem _)
      simpa using this
  simp [rotK, this]
theorem rotK_no {P : List Int} (hb : ∀ i y, i < P.length → P[i]? = some y → ¬ y < 0) : rotK P = 0 := by
  have : P.findIdx? (fun x => decide (x < 0)) = none := by
    rw [List.findIdx?_eq_none_iff]
    intro x hx
    obtain ⟨i, hi, rfl⟩ := List.getElem_of_mem hx
    simpa using hb i _ hi (List.getElem?_eq_getElem hi)
  simp [rotK, this]
theorem infoI3 : (Try.prog.info? 3).map (fun i => (i.zero, i.size, i.bytes)) = some (some (.int .i64 0), 1, 8) := by kernel_rfl
theorem infoRM : (Try.prog.info? 62).map (fun i => (i.zero, i.size, i.bytes)) = some (some (.agg #[.int .i64 0, .int .i64 0, .int .i64 0, .int .i64 0]), 4, 32) := by kernel_rfl
section
variable (w : World) (P : List Int) (S : RSt)
set_option maxRecDepth 100000 in
set_option maxHeartbeats 4000000 in
theorem kids_c (v : Nat) (h : RAt w P S) : Calls Try.prog 57 #[.agg #[.slice (some ⟨S.gp, 0, none⟩) P.length S.kp, .slice (some ⟨S.g, 0, none⟩) P.length S.kn], .int .i64 v] w fun e w' =>
    ∃ A kap, e = .returned (.slice A (kids P v).length kap) ∧ w'.ownsRow w.heap.size 3 1 (.slice A (kids P v).length kap) (kids P v).length ((kids P v).flatMap kcell) ∧ Below w.heap.size w w' := by
  have HP := Kept.mk h.par
  have sm := h.sm
  have HB := Kept.mk (Blk.new w 53 #[.slice (some ⟨S.gp, 0, none⟩) P.length S.kp, .slice (some ⟨S.g, 0, none⟩) P.length S.kn])
  have HD0 : Kept (Below w.heap.size w (w.alloc (.cells #[.slice (some ⟨S.gp, 0, none⟩) P.length S.kp, .slice (some ⟨S.g, 0, none⟩) P.length S.kn] 53))) := ⟨(Below.refl _ _).alloc (Nat.le_refl _) _⟩
  obtain ⟨jj, hjj, hy0, hy1, hy2⟩ := info_parts infoI3
  clear h
  go_enter Try.func57, Try.ntmps57
  go_wp2_with fail
  go_loopw [5, 6] (fun v5 v6 wr => ∃ k : Nat, k ≤ P.length ∧ v6 = .int .i64 k ∧ Kept (wr.ownsRow (w.heap.size + 1) 3 1 v5 (kidK P v k).length ((kidK P v k).flatMap kcell)) ∧ Kept (Blk wr w.heap.size 53 #[.slice (some ⟨S.gp, 0, none⟩) P.length S.kp, .slice (some ⟨S.g, 0, none⟩) P.length S.kn]) ∧ Kept (Below w.heap.size w wr)) (fun _ v6 _ => P.length - (intOf v6).toNat)
  case atStart => exact ⟨0, Nat.zero_le _, rfl, ⟨World.ownsRow_nil _ _ _ _⟩, HB, HD0⟩
  case round =>
    obtain ⟨k, hk, rfl, HO, HB1, HD⟩ := hrel
    have hz := HD.out.size
    have z1 := HB1.out.lt
    have k0 := HB1.out.cell 0 (v := .slice (some ⟨S.gp, 0, none⟩) P.length S.kp) rfl
    by_cases hlt : k < P.length
    · obtain ⟨x, hx, hc⟩ := (HP.out.new_ HD.out).int hlt
      have hln := kidK_len P v k
      by_cases hxv : x = v
      · have HE := Kept.mk (kidK_yes hx hxv)
        have HMS := Kept.mk (reads_made wr #[.int .i64 k] 3 1 1 rfl)
        have HO6 := Kept.mk (HO.out.alloc (.cells #[.int .i64 k] 3))
        have h1 : ∀ u ∈ (#[Value.int .i64 k]).toList, u.oneCell' = true := (by intro u hu; simp at hu; rcases hu with rfl; rfl)
        subst hxv
        clear hx
        go_wp2_with (at_builtin; refine wpList_append_any _ rfl _ _ _ rfl (w.heap.size + 1) 3 jj _ 1 8 Try.underlying22 hjj hy0 hy1 hy2 rfl (by omega) _ (kidK P v k).length _ rfl HO6.out _ _ 1 1 _ rfl HMS.out h1 (by unfold maxLen; omega) (by omega) (by simp; omega) ?_; intro v' w4 ho hgw hat; have HO7 := Kept.mk ho; have HGW := Kept.mk hgw; clear ho hgw hat)
        go_roundw
        case rel => exact ⟨k + 1, by omega, by go_num, ⟨by rw [HE.out, List.length_append, List.flatMap_append]; simpa [kcell] using HO7.out⟩, ⟨(HB1.out.alloc _).grown HGW.out (fun e => by have := (HO6.out.lt _ e.symm).1; omega)⟩, ⟨(HD.out.alloc hz _).grown HGW.out (by simp; omega) (fun j hj => by have := (HO6.out.lt j hj).1; omega)⟩⟩
        case measure => simp [intOf]; omega
      · have HE := Kept.mk (kidK_no hx hxv)
        clear hx
        go_wp2_with fail
        go_roundw
        case rel => exact ⟨k + 1, by omega, by go_num, ⟨by rw [HE.out]; exact HO.out⟩, HB1, HD⟩
        case measure => simp [intOf]; omega
    · obtain rfl : k = P.length := by omega
      have HO2 := HO.out
      rw [kidK_all] at HO2
      replace HO2 := Kept.mk (own_base HO2 (Nat.le_succ w.heap.size))
      obtain ⟨A, kap, hv9⟩ := own_slice HO2.out
      subst hv9
      clear hlt HO
      go_wp2_with fail
      go_ret
      exact ⟨A, kap, rfl, HO2.out, HD.out⟩
set_option maxRecDepth 100000 in
set_option maxHeartbeats 4000000 in
theorem root_c (h : RAt w P S) : Calls Try.prog 50 #[.agg #[.slice (some ⟨S.gp, 0, none⟩) P.length S.kp, .slice (some ⟨S.g, 0, none⟩) P.length S.kn]] w fun e w' =>
    e = .returned (.int .i64 (rotK P : Nat)) ∧ Below w.heap.size w w' := by
  have HP := Kept.mk h.par
  have sm := h.sm
  have HB := Kept.mk (Blk.new w 53 #[.slice (some ⟨S.gp, 0, none⟩) P.length S.kp, .slice (some ⟨S.g, 0, none⟩) P.length S.kn])
  have HD0 : Kept (Below w.heap.size w (w.alloc (.cells #[.slice (some ⟨S.gp, 0, none⟩) P.length S.kp, .slice (some ⟨S.g, 0, none⟩) P.length S.kn] 53))) := ⟨(Below.refl _ _).alloc (Nat.le_refl _) _⟩
  have k0 := HB.out.cell 0 (v := .slice (some ⟨S.gp, 0, none⟩) P.length S.kp) rfl
  have z0 := HB.out.lt
  clear h
  go_enter Try.func50, Try.ntmps50
  go_wp2_with fail
  go_loop [3] (fun v3 => ∃ k : Nat, k ≤ P.length ∧ v3 = .int .i64 k ∧ Kept (∀ i y, i < k → P[i]? = some y → ¬ y < 0)) (fun v3 => P.length - (intOf v3).toNat)
  case atStart => exact ⟨0, Nat.zero_le _, rfl, ⟨fun i y hi => absurd hi (by omega)⟩⟩
  case round =>
    obtain ⟨k, hk, rfl, HK⟩ := hrel
    by_cases hlt : k < P.length
    · obtain ⟨x, hx, hc⟩ := (HP.out.new_ HD0.out).int hlt
      by_cases hx0 : x < 0
      · have HR := Kept.mk (rotK_yes hx hx0 HK.out)
        clear hx
        go_wp2_with fail
        go_ret
        exact ⟨by rw [HR.out]; rfl, HD0.out⟩
      · have HK2 : Kept (∀ i y, i < k + 1 → P[i]? = some y → ¬ y < 0) := ⟨fun i y hi hy => by
          by_cases e : i = k
          · subst e; rw [hx] at hy; injection hy with hy; subst hy; exact hx0
          · exact HK.out i y (by omega) hy⟩
        clear hx
        go_wp2_with fail
        go_round
        case rel => exact ⟨k + 1, by omega, by go_num, HK2⟩
        case measure => simp [intOf]; omega
    · obtain rfl : k = P.length := by omega
      have HR := Kept.mk (rotK_no HK.out)
      clear hlt
      go_wp2_with fail
      go_ret
      exact ⟨by rw [HR.out]; rfl, HD0.out⟩
end
theorem kid_cell {w : World} {B n kap k : Nat} {A : Option Addr} {K : List Nat} (h : w.ownsRow B 3 1 (.slice A n kap) n (K.flatMap kcell)) (hn : n = K.length) (hk : k < n) : ∃ c b off, K[k]? = some c ∧ A = some ⟨b, off, none⟩ ∧ b < w.heap.size ∧ w.cell? ⟨b, off + k, none⟩ = some (.int .i64 (c : Nat)) := by
  obtain ⟨x, b, off, hx, hA, -, hb, hc⟩ := (RowsAt.of_own h kcell_len (by omega) hn).at_ (by omega : k < K.length)
  have c0 := hc 0 _ rfl
  simp only [Nat.add_zero, Nat.mul_one] at c0
  exact ⟨x, b, off, hx, hA, hb, c0⟩
theorem kid_lt {P : List Int} {v k c : Nat} (h : (kids P v)[k]? = some c) : c < P.length := (mem_kids.1 (List.mem_of_getElem? h)).1
def rDownK (K : List Nat) (kind : Int) (v : Nat) (ep : Int) : List Mg := K.map fun (c : Nat) => ⟨kind, v, c, ep⟩
theorem rDownK_next {K : List Nat} {kind ep : Int} {v k c : Nat} (hc : K[k]? = some c) : rDownK (K.take (k + 1)) kind v ep = rDownK (K.take k) kind v ep ++ [⟨kind, v, c, ep⟩] := by
  unfold rDownK; rw [take_next hc, List.map_append]; rfl
theorem rDown_len (P : List Int) (kind : Int) (v : Nat) (ep : Int) : (rDown P kind v ep).length ≤ P.length := by
  unfold rDown; rw [List.length_map]; exact kids_len P v
/-- What the walks need of node v. -/
structure RNode (w : World) (P : List Int) (S : RSt) (v : Nat) (n : Rn) : Prop where
  n0 : w.cell? ⟨S.g, v * 4, none⟩ = some (.int .i64 n.x.ep)
  n1 : w.cell? ⟨S.g, v * 4 + 1, none⟩ = some (.int .i64 n.x.ph)
  n2 : w.cell? ⟨S.g, v * 4 + 2, none⟩ = some (.bool n.x.dr)
  n3 : w.cell? ⟨S.g, v * 4 + 3, none⟩ = some (.slice n.A n.x.L.length n.k)
  vl : v < P.length
  zg : S.g < w.heap.size
  zp : S.gp < w.heap.size
  fr : ∀ i, w.frozen? ⟨S.g, i, none⟩ = false
theorem RAt.node {w : World} {P : List Int} {S : RSt} (h : RAt w P S) {v : Nat} {n : Rn} (hv : S.N[v]? = some n) : RNode w P S v n :=
  ⟨by have := h.nodes.cell hv (j := 0) rfl; simpa using this, h.nodes.cell hv (j := 1) rfl, h.nodes.cell hv (j := 2) rfl, h.nodes.cell hv (j := 3) rfl, by rw [← h.len]; exact (List.getElem?_eq_some_iff.1 hv).1, h.nodes.lt, h.par.lt, h.nodes.free⟩
def epR (P : List Int) (rs : List Rp) (z : Int) (phase : Bool) : Int := if z < 0 ∨ P.length ≤ z then -1 else if phase then (rd rs z.toNat).ph else (rd rs z.toNat).ep
section
variable (w : World) (P : List Int) (S : RSt)
set_option maxRecDepth 100000 in
set_option maxHeartbeats 4000000 in
theorem rdown_c (kind : Int) (v : Nat) (ep : Int) (h : RAt w P S) : Calls Try.prog 66 #[.agg #[.slice (some ⟨S.gp, 0, none⟩) P.length S.kp, .slice (some ⟨S.g, 0, none⟩) P.length S.kn], .int .i64 kind, .int .i64 v, .int .i64 ep] w fun e w' =>
    ∃ A kap, e = .returned (.slice A (rDown P kind v ep).length kap) ∧ w'.ownsRow w.heap.size 62 4 (.slice A (rDown P kind v ep).length kap) (rDown P kind v ep).length ((rDown P kind v ep).flatMap mcell) ∧ Below w.heap.size w w' := by
  have HH := Kept.mk h
  have sm := h.sm
  have HB := Kept.mk (Blk.new w 53 #[.slice (some ⟨S.gp, 0, none⟩) P.length S.kp, .slice (some ⟨S.g, 0, none⟩) P.length S.kn])
  have HD0 : Kept (Below w.heap.size w (w.alloc (.cells #[.slice (some ⟨S.gp, 0, none⟩) P.length S.kp, .slice (some ⟨S.g, 0, none⟩) P.length S.kn] 53))) := ⟨(Below.refl _ _).alloc (Nat.le_refl _) _⟩
  have hkl := kids_len P v
  obtain ⟨jj, hjj, hy0, hy1, hy2⟩ := info_parts infoRM
  have HRD : Kept (rDown P kind v ep = rDownK (kids P v) kind v ep) := ⟨rfl⟩
  rw [HRD.out]
  clear h
  go_enter Try.func66, Try.ntmps66
  go_wp2_with (go_at_call 57; refine (kids_c _ P S v (HH.out.new_ HD0.out)).mono ?_; rintro e w1 ⟨Ak, kk, rfl, ho, hb⟩; have HK := Kept.mk ho; have HD1 := Kept.mk (join HD0.out hb); have HB1 := Kept.mk (HB.out.new_ hb); clear ho hb)
  have HKL := Kept.mk (rfl : (kids P v).length = (kids P v).length)
  obtain ⟨K, hK⟩ : ∃ K, kids P v = K := ⟨_, rfl⟩
  rw [hK] at hkl HK ⊢
  replace hK := Kept.mk hK
  go_loopw [9, 11] (fun v9 v11 wr => ∃ k : Nat, k ≤ K.length ∧ v11 = .int .i64 k ∧ Kept (wr.ownsRow w1.heap.size 62 4 v9 (rDownK (K.take k) kind v ep).length ((rDownK (K.take k) kind v ep).flatMap mcell)) ∧ Kept (Below w1.heap.size w1 wr)) (fun _ v11 _ => K.length - (intOf v11).toNat)
  case atStart => exact ⟨0, Nat.zero_le _, rfl, ⟨World.ownsRow_nil _ _ _ _⟩, ⟨Below.refl _ _⟩⟩
  case round =>
    obtain ⟨k, hk, rfl, HO, HD⟩ := hrel
    have hz := HD.out.size
    have hz1 := HD1.out.size
    by_cases hlt : k < K.length
    · obtain ⟨c, b, off, hc, hA, hb, hcell⟩ := kid_cell (own_new HK.out HD.out) rfl hlt
      have HA := Kept.mk hA
      have HE := Kept.mk (rDownK_next (kind := kind) (ep := ep) (v := v) hc)
      have hln : (rDownK (K.take k) kind v ep).length ≤ K.length := by unfold rDownK; rw [List.length_map]; exact List.length_take_le' _ _
      have HMS := Kept.mk (reads_made wr #[.int .i64 kind, .int .i64 v, .int .i64 c, .int .i64 ep] 62 4 1 rfl)
      have HO6 := Kept.mk (HO.out.alloc (.cells #[.int .i64 kind, .int .i64 v, .int .i64 c, .int .i64 ep] 62))
      have h1 : ∀ u ∈ (#[Value.int .i64 kind, .int .i64 v, .int .i64 c, .int .i64 ep]).toList, u.oneCell' = true := (by intro u hu; simp at hu; rcases hu with rfl | rfl | rfl | rfl <;> rfl)
      rw [hA]
      clear hc hA
      go_wp2_with (at_builtin; refine wpList_append_any _ rfl _ _ _ rfl w1.heap.size 62 jj _ 4 32 Try.underlying57 hjj hy0 hy1 hy2 rfl (by omega) _ (rDownK (K.take k) kind v ep).length _ rfl HO6.out _ _ 1 1 _ rfl HMS.out h1 (by unfold maxLen; omega) (by omega) (by simp; omega) ?_; intro v' w4 ho hgw hat; have HO7 := Kept.mk ho; have HGW := Kept.mk hgw; have HAT := Kept.mk hat; clear ho hgw hat)
      go_roundw
      case rel => exact ⟨k + 1, by omega, by go_num, ⟨by rw [HE.out, List.length_append, List.flatMap_append]; simpa [mcell] using HO7.out⟩, ⟨(HD.out.alloc hz _).grown HGW.out (by simp; omega) (fun j hj => (HO6.out.lt j hj).1)⟩⟩
      case measure => simp [intOf]; omega
    · obtain rfl : k = K.length := by omega
      have HO2 := HO.out
      rw [List.take_of_length_le (Nat.le_refl _)] at HO2
      replace HO2 := Kept.mk (own_base HO2 HD1.out.size)
      obtain ⟨A, kap, hv9⟩ := own_slice HO2.out
      subst hv9
      clear hlt HO
      go_wp2_with fail
      go_ret
      rw [hK.out]
      exact ⟨A, kap, rfl, HO2.out, join HD1.out HD.out⟩
set_option maxRecDepth 100000 in
set_option maxHeartbeats 4000000 in
theorem epoch_c (z : Int) (phase : Bool) (h : RAt w P S) : Calls Try.prog 31 #[.agg #[.slice (some ⟨S.gp, 0, none⟩) P.length S.kp, .slice (some ⟨S.g, 0, none⟩) P.length S.kn], .int .i64 z, .bool phase] w fun e w' =>
    e = .returned (.int .i64 (epR P (rps S) z phase)) ∧ Below w.heap.size w w' := by
  have HH := Kept.mk h
  have sm := h.sm
  have HB := Kept.mk (Blk.new w 53 #[.slice (some ⟨S.gp, 0, none⟩) P.length S.kp, .slice (some ⟨S.g, 0, none⟩) P.length S.kn])
  have HD0 : Kept (Below w.heap.size w (w.alloc (.cells #[.slice (some ⟨S.gp, 0, none⟩) P.length S.kp, .slice (some ⟨S.g, 0, none⟩) P.length S.kn] 53))) := ⟨(Below.refl _ _).alloc (Nat.le_refl _) _⟩
  have k1 := HB.out.cell 1 (v := .slice (some ⟨S.g, 0, none⟩) P.length S.kn) rfl
  have z0 := HB.out.lt
  have hlen := h.len
  by_cases h1 : z < 0
  · have HE : Kept (epR P (rps S) z phase = -1) := ⟨by unfold epR; rw [if_pos (.inl h1)]⟩
    clear h
    go_enter Try.func31, Try.ntmps31
    go_wp2_with fail
    go_ret
    exact ⟨by rw [HE.out]; rfl, HD0.out⟩
  · by_cases h2 : (P.length : Int) ≤ z
    · have HE : Kept (epR P (rps S) z phase = -1) := ⟨by unfold epR; rw [if_pos (.inr h2)]⟩
      clear h
      go_enter Try.func31, Try.ntmps31
      go_wp2_with fail
      go_ret
      exact ⟨by rw [HE.out]; rfl, HD0.out⟩
    · obtain ⟨v, rfl⟩ : ∃ v : Nat, z = v := ⟨z.toNat, by omega⟩
      obtain ⟨n, hn⟩ := get_some (l := S.N) (k := v) (by omega)
      have hN := (h.new_ HD0.out).node hn
      have HX := Kept.mk (rps_get hn)
      have q0 := hN.n0
      have q1 := hN.n1
      have vl := hN.vl
      have zg := hN.zg
      clear h hN hn
      cases phase with
      | true =>
        have HE : Kept (epR P (rps S) v true = n.x.ph) := ⟨by unfold epR; rw [if_neg (by omega), if_pos rfl, Int.toNat_natCast, HX.out]⟩
        go_enter Try.func31, Try.ntmps31
        go_wp2_with fail
        go_ret
        exact ⟨by rw [HE.out]; rfl, HD0.out⟩
      | false =>
        have HE : Kept (epR P (rps S) v false = n.x.ep) := ⟨by unfold epR; rw [if_neg (by omega), if_neg (by simp), Int.toNat_natCast, HX.out]⟩
        go_enter Try.func31, Try.ntmps31
        go_wp2_with fail
        go_ret
        exact ⟨by rw [HE.out]; rfl, HD0.out⟩
set_option maxRecDepth 100000 in
set_option maxHeartbeats 4000000 in
theorem rall_c (v : Nat) (n : Rn) (h : RAt w P S) (hv : S.N[v]? = some n) (hL : n.x.L.length = P.length) : Calls Try.prog 53 #[.agg #[.slice (some ⟨S.gp, 0, none⟩) P.length S.kp, .slice (some ⟨S.g, 0, none⟩) P.length S.kn], .int .i64 v] w fun e w' =>
    e = .returned (.bool (rAll P n.x v)) ∧ Below w.heap.size w w' := by
  have HH := Kept.mk h
  have sm := h.sm
  have HB := Kept.mk (Blk.new w 53 #[.slice (some ⟨S.gp, 0, none⟩) P.length S.kp, .slice (some ⟨S.g, 0, none⟩) P.length S.kn])
  have HD0 : Kept (Below w.heap.size w (w.alloc (.cells #[.slice (some ⟨S.gp, 0, none⟩) P.length S.kp, .slice (some ⟨S.g, 0, none⟩) P.length S.kn] 53))) := ⟨(Below.refl _ _).alloc (Nat.le_refl _) _⟩
  have hkl := kids_len P v
  have HV := Kept.mk hv
  have HL := Kept.mk hL
  obtain ⟨gl, hgl, HLR⟩ : ∃ gl, n.A = some ⟨gl, 0, none⟩ ∧ Kept (OwnAt w gl 4 1 ycell n.x.L) := by
    obtain ⟨g, h1, h2⟩ := h.ans n (List.mem_of_getElem? hv) (by intro e; rw [e] at hL; have := h.pos; simp at hL; omega)
    exact ⟨g, h1, ⟨h2⟩⟩
  have HAL : Kept (rAll P n.x v = (kids P v).all fun c => n.x.L.getD c false) := ⟨rfl⟩
  rw [HAL.out]
  replace hgl := Kept.mk hgl
  clear h hv hL
  go_enter Try.func53, Try.ntmps53
  go_wp2_with (go_at_call 57; refine (kids_c _ P S v (HH.out.new_ HD0.out)).mono ?_; rintro e w1 ⟨Ak, kk, rfl, ho, hb⟩; have HK := Kept.mk ho; have HD1 := Kept.mk (join HD0.out hb); have HB1 := Kept.mk (HB.out.new_ hb); clear ho hb)
  have HKC : Kept (∀ k c, (kids P v)[k]? = some c → c < P.length) := ⟨fun k c => kid_lt⟩
  obtain ⟨K, hK⟩ : ∃ K, kids P v = K := ⟨_, rfl⟩
  rw [hK] at hkl HK HKC ⊢
  replace hK := Kept.mk hK
  have HF := Kept.mk (HH.out.new_ HD1.out)
  have HLF := Kept.mk (HLR.out.new_ HD1.out)
  go_loopw [6] (fun v6 wr => ∃ k : Nat, k ≤ K.length ∧ v6 = .int .i64 k ∧ Kept ((K.take k).all (fun c => n.x.L.getD c false) = true) ∧ Kept (Drewn w1 wr)) (fun v6 _ => K.length - (intOf v6).toNat)
  case atStart => exact ⟨0, Nat.zero_le _, rfl, ⟨by simp⟩, ⟨⟨0, rfl⟩⟩⟩
  case round =>
    obtain ⟨k, hk, rfl, HA, HD⟩ := hrel
    by_cases hlt : k < K.length
    · have hN1 := (HF.out.new_ HD.out.below).node HV.out
      have p3 := hN1.n3
      have vl := hN1.vl
      have zg := hN1.zg
      have hBW := HB1.out.new_ HD.out.below
      have k1 := hBW.cell 1 (v := .slice (some ⟨S.g, 0, none⟩) P.length S.kn) rfl
      have z1 := hBW.lt
      rw [hgl.out] at p3
      clear hN1 hBW
      obtain ⟨c, b, off, hc, hAk, hb, hcell⟩ := kid_cell (own_new HK.out HD.out.below) rfl hlt
      have hcl := HKC.out k c hc
      obtain ⟨y, hy⟩ := get_some (l := n.x.L) (k := c) (by rw [HL.out]; exact hcl)
      have hyc := (HLF.out.new_ HD.out.below).cell hy (j := 0) rfl
      have zl := (HLF.out.new_ HD.out.below).lt
      simp only [Nat.add_zero, Nat.mul_one] at hyc
      have hcL : c < n.x.L.length := by rw [HL.out]; exact hcl
      have HY : Kept (n.x.L.getD c false = y) := ⟨by simp [hy]⟩
      have HKN := Kept.mk (take_next hc)
      have HCM := Kept.mk (List.mem_of_getElem? hc)
      rw [hAk]
      clear hc hAk hy
      generalize n.x.L.length = ll at *
      cases y with
      | true =>
        go_wp2_with fail
        go_quiet (fail)
        go_wp2_with fail
        go_roundw
        case rel => exact ⟨k + 1, by omega, by go_num, ⟨by rw [HKN.out, List.all_append, HA.out]; simpa using HY.out⟩, ⟨HD.out.step _⟩⟩
        case measure => simp [intOf]; omega
      | false =>
        go_wp2_with fail
        go_quiet (fail)
        go_wp2_with fail
        go_ret
        refine ⟨ret_bool ?_, join HD1.out (HD.out.step _).below⟩
        rw [hK.out, eq_comm, List.all_eq_false]
        exact ⟨c, HCM.out, by rw [HY.out]; simp⟩
    · obtain rfl : k = K.length := by omega
      clear hlt
      go_wp2_with fail
      go_ret
      refine ⟨ret_bool ?_, join HD1.out HD.out.below⟩
      have := HA.out
      rw [List.take_of_length_le (Nat.le_refl _)] at this
      rw [hK.out]
      exact this.symm
end
end Go.Proofs.Ytibmbhnpmfgclaa
