/- Make, Check and Fair: the certificate. Fair and Check. -/
import Derived.Test.YtjalegdfofogcaaHolA
import Derived.Test.YtjalegdfofogcaaFilF
import Derived.Laws.EntriesVeiled
namespace Go.Proofs.Ytjalegdfofogcaa
set_option linter.unusedVariables false
set_option linter.unusedSimpArgs false
open Go.RowKit
/-- What the search for a reason has captured. -/
structure MK (W : World) (n : PNet) (rs : List Rq) (rA : Option Addr) (rk bN bR bU gU b6 b8 i : Nat) : Prop where
  hc : HC W n rs rA rk bN bR bU gU (fullL n rs)
  f6 : Blk W b6 84 #[.func (.func 60) #[] #[.pointer (some ⟨bN, 0, none⟩), .pointer (some ⟨bR, 0, none⟩), .pointer (some ⟨bU, 0, none⟩)]]
  i8 : Blk W b8 3 #[.int .i64 (i : Int)]
theorem MK.new_ {w w' : World} {n : PNet} {rs : List Rq} {rA : Option Addr} {rk bN bR bU gU b6 b8 i : Nat} (h : MK w n rs rA rk bN bR bU gU b6 b8 i) (hb : Below w.heap.size w w') : MK w' n rs rA rk bN bR bU gU b6 b8 i := ⟨h.hc.new_ hb, h.f6.new_ hb, h.i8.new_ hb⟩
set_option maxHeartbeats 4000000 in
theorem make1_c (n : PNet) (rs : List Rq) (rA : Option Addr) (rk bN bR bU gU b6 b8 i : Nat) (x : Int) (w : World) (hn : NetAt w w.heap.size n) (hv : netOk n = true) (hr : RowsAt w w.heap.size 2 ccell rA rs) (hrl : rs.length = n.flows.length) (hro : AllOk rs) (hm : MK w n rs rA rk bN bR bU gU b6 b8 i) (hi : i < n.flows.length) :
    Calls Try.prog 45 #[.int .i64 x, .pointer (some ⟨b6, 0, none⟩), .pointer (some ⟨b8, 0, none⟩)] w fun e w' => e = .returned (.bool (holdB n rs i x)) ∧ Below w.heap.size w w' := by
  have HO := hold_c n rs rA rk bN bR bU gU i x w hn hv hr hrl hro hm.hc hi
  have q0 := hm.f6.cell 0 (v := .func (.func 60) #[] #[.pointer (some ⟨bN, 0, none⟩), .pointer (some ⟨bR, 0, none⟩), .pointer (some ⟨bU, 0, none⟩)]) rfl
  have q1 := hm.f6.lt
  have q2 := hm.i8.cell 0 (v := .int .i64 (i : Int)) rfl
  have q3 := hm.i8.lt
  obtain ⟨ans, ha⟩ : ∃ a, a = holdB n rs i x := ⟨_, rfl⟩
  rw [← ha] at HO ⊢
  clear hn hv hr hrl hro hm hi ha
  go_enter Try.func45, Try.ntmps45
  go_wp2_with (go_at_call 60; refine HO.mono ?_; rintro e w1 ⟨rfl, hb1⟩)
  go_ret
  exact ⟨rfl, hb1⟩
theorem nodup_le : ∀ (N : Nat) (l : List Int), l.Nodup → (∀ x ∈ l, 0 ≤ x ∧ x < N) → l.length ≤ N
  | 0, l, _, h => by
    cases l with
    | nil => exact Nat.le_refl _
    | cons x l => have := h x (by simp); omega
  | N + 1, l, hd, h => by
    have := nodup_le N (l.erase (N : Int)) (hd.erase _) (fun x hx => by
      rw [hd.mem_erase_iff] at hx
      have := h x hx.2
      omega)
    by_cases hm : (N : Int) ∈ l
    · rw [List.length_erase_of_mem hm] at this; omega
    · rw [List.erase_of_not_mem hm] at this; omega
theorem icell_one (l : List Int) : ∀ u ∈ l.flatMap icell, u.oneCell' = true := by
  intro u hu
  obtain ⟨x, _, hx⟩ := List.mem_flatMap.1 hu
  simp [icell] at hx
  subst hx
  rfl
def idxF (p : Int → Bool) (l : List Int) : Int := match l.findIdx? p with | some k => (k : Int) | none => -1
theorem idxF_some {p : Int → Bool} {l : List Int} {k : Nat} {x : Int} (hx : l[k]? = some x) (hp : p x = true) (h : ∀ (j : Nat) (y : Int), j < k → l[j]? = some y → p y = false) : idxF p l = k := by
  have hk : k < l.length := (List.getElem?_eq_some_iff.1 hx).1
  have : l.findIdx? p = some k := by
    rw [List.findIdx?_eq_some_iff_getElem]
    refine ⟨hk, ?_, fun j hj => ?_⟩
    · rw [List.getElem?_eq_getElem hk] at hx
      injection hx with hx
      rw [hx]; exact hp
    · rw [h j _ hj (List.getElem?_eq_getElem (by omega))]; decide
  unfold idxF
  rw [this]
theorem idxF_none {p : Int → Bool} {l : List Int} (h : ∀ (j : Nat) (y : Int), j < l.length → l[j]? = some y → p y = false) : idxF p l = -1 := by
  have : l.findIdx? p = none := by
    rw [List.findIdx?_eq_none_iff]
    intro x hx
    obtain ⟨j, hj⟩ := List.getElem?_of_mem hx
    exact h j x (List.getElem?_eq_some_iff.1 hj).1 hj
  unfold idxF
  rw [this]
set_option maxHeartbeats 4000000 in
theorem idxfn_c (n : PNet) (rs : List Rq) (rA : Option Addr) (rk bN bR bU gU b6 b8 i : Nat) (l : List Int) (A : Option Addr) (kap : Nat) (w : World) (hl : RowsAt w w.heap.size 1 icell A l) (hlm : l.length ≤ 9223372036854775807) (hn : NetAt w w.heap.size n) (hv : netOk n = true) (hr : RowsAt w w.heap.size 2 ccell rA rs) (hrl : rs.length = n.flows.length) (hro : AllOk rs) (hm : MK w n rs rA rk bN bR bU gU b6 b8 i) (hi : i < n.flows.length) :
    Calls Try.prog 44 #[.slice A l.length kap, .func (.func 45) #[] #[.pointer (some ⟨b6, 0, none⟩), .pointer (some ⟨b8, 0, none⟩)]] w fun e w' => e = .returned (.int .i64 (idxF (holdB n rs i) l)) ∧ Below w.heap.size w w' := by
  have HO := Kept.mk (fun x w1 (hb : Below w.heap.size w w1) => make1_c n rs rA rk bN bR bU gU b6 b8 i x w1 (hn.new_ hb) hv (hr.new_ hb) hrl hro (hm.new_ hb) hi)
  have HL := Kept.mk hl
  obtain ⟨p, hp⟩ : ∃ p, p = holdB n rs i := ⟨_, rfl⟩
  rw [← hp] at HO ⊢
  clear hl hn hv hr hrl hro hm hi hp
  obtain ⟨ANS, hA⟩ : ∃ a, a = idxF p l := ⟨_, rfl⟩
  rw [← hA]
  have HA := Kept.mk hA
  clear hA
  go_enter Try.func44, Try.ntmps44
  go_wp2_with fail
  go_loopw [8] (fun v wr => ∃ k : Nat, k ≤ l.length ∧ v = .int .i64 k ∧ Kept (∀ (j : Nat) (y : Int), j < k → l[j]? = some y → p y = false) ∧ Kept (Below w.heap.size w wr)) (fun v _ => l.length - (intOf v).toNat)
  case atStart => exact ⟨0, Nat.zero_le _, rfl, ⟨fun j y hj => absurd hj (by omega)⟩, ⟨Below.refl _ _⟩⟩
  case round =>
    obtain ⟨k, hk, rfl, HB, HW⟩ := hrel
    by_cases hlt : k < l.length
    · obtain ⟨x, b, off, hx, rfl, -, hb, hc⟩ := (HL.out.new_ HW.out).at_ hlt
      have c0 := hc 0 (.int .i64 x) rfl
      simp only [Nat.add_zero, Nat.mul_one] at c0
      have HX := Kept.mk hx
      have CF := HO.out x wr HW.out
      clear hc hx
      cases hpx : p x with
      | true =>
        have HRR : Kept (ANS = k) := ⟨by rw [HA.out]; exact idxF_some HX.out hpx HB.out⟩
        rw [hpx] at CF
        clear hpx
        go_wp2_with (go_at_call 45; refine CF.mono ?_; rintro e w2 ⟨rfl, hb2⟩; have HW2 := Kept.mk (join HW.out hb2); clear hb2)
        go_ret
        exact ⟨ret_int HRR.out.symm, HW2.out⟩
      | false =>
        have HNX : Kept (∀ (j : Nat) (y : Int), j < k + 1 → l[j]? = some y → p y = false) := ⟨fun j y hj hy => by
          by_cases e : j = k
          · subst e
            rw [HX.out] at hy
            injection hy with hy
            rw [← hy]; exact hpx
          · exact HB.out j y (by omega) hy⟩
        rw [hpx] at CF
        clear hpx
        go_wp2_with (go_at_call 45; refine CF.mono ?_; rintro e w2 ⟨rfl, hb2⟩; have HW2 := Kept.mk (join HW.out hb2); clear hb2)
        go_roundw
        case rel => exact ⟨k + 1, by omega, by go_num, HNX, HW2⟩
        case measure => simp [intOf]; omega
    · obtain rfl : k = l.length := by omega
      have HRR : Kept (ANS = -1) := ⟨by rw [HA.out]; exact idxF_none HB.out⟩
      clear hlt
      go_wp2_with fail
      go_ret
      exact ⟨ret_int HRR.out.symm, HW.out⟩
/-- The first reason of a flow. -/
def tries (n : PNet) (i : Nat) : List Int := -1 :: (flo n i).ls
def rsnK (n : PNet) (rs : List Rq) (i : Nat) : Option Nat := (tries n i).findIdx? (holdB n rs i)
def rsnOf (n : PNet) (rs : List Rq) (i : Nat) : Int := (tries n i).getD ((rsnK n rs i).getD 0) 0
def rsnL (n : PNet) (rs : List Rq) (k : Nat) : List Int := (List.range k).map (rsnOf n rs)
def makeB (n : PNet) (rs : List Rq) : Bool := feasB n rs && (List.range n.flows.length).all fun i => (rsnK n rs i).isSome
theorem rsnL_len (n : PNet) (rs : List Rq) (k : Nat) : (rsnL n rs k).length = k := by simp [rsnL]
theorem rsnL_next (n : PNet) (rs : List Rq) (k : Nat) : rsnL n rs (k + 1) = rsnL n rs k ++ [rsnOf n rs k] := by unfold rsnL; rw [List.range_succ, List.map_append]; rfl
theorem make_none {n : PNet} {rs : List Rq} {k : Nat} (hk : k < n.flows.length) (h : rsnK n rs k = none) : makeB n rs = false := by
  unfold makeB
  rw [show ((List.range n.flows.length).all fun i => (rsnK n rs i).isSome) = false from List.all_eq_false.2 ⟨k, List.mem_range.2 hk, by rw [h]; decide⟩]
  simp
/-- Make's memory. -/
structure MB (w W : World) (n : PNet) (rs : List Rq) (rA : Option Addr) (rk bN bR bU gU b6 b0 : Nat) (v : Value) (L : List Int) : Prop where
  x : Blk W w.heap.size 25 #[.slice n.cA n.caps.length n.ck, .slice n.fA n.flows.length n.fk]
  hc : HC W n rs rA rk bN bR bU gU (fullL n rs)
  f6 : Blk W b6 84 #[.func (.func 60) #[] #[.pointer (some ⟨bN, 0, none⟩), .pointer (some ⟨bR, 0, none⟩), .pointer (some ⟨bU, 0, none⟩)]]
  own : W.ownsRow b0 3 1 v L.length (L.flatMap icell)
  blw : Below w.heap.size w W
  lo : w.heap.size < b0 ∧ bN < b0 ∧ bR < b0 ∧ bU < b0 ∧ gU < b0 ∧ b6 < b0 ∧ b0 ≤ W.heap.size
section
variable {w W W' : World} {n : PNet} {rs : List Rq} {rA : Option Addr} {rk bN bR bU gU b6 b0 : Nat} {v v' : Value} {L L' : List Int}
theorem MB.new_ (h : MB w W n rs rA rk bN bR bU gU b6 b0 v L) (hb : Below W.heap.size W W') : MB w W' n rs rA rk bN bR bU gU b6 b0 v L := by
  have := h.lo
  have hs := hb.size
  exact ⟨h.x.new_ hb, h.hc.new_ hb, h.f6.new_ hb, own_new h.own hb, join h.blw hb, by omega⟩
theorem MB.grow (h : MB w W n rs rA rk bN bR bU gU b6 b0 v L) (ho : W'.ownsRow b0 3 1 v' L'.length (L'.flatMap icell)) (hg : W.grownBy W' v.ownBlock) : MB w W' n rs rA rk bN bR bU gU b6 b0 v' L' := by
  have hl := h.lo
  have hs := hg.size
  have hne : ∀ q, q < b0 → some q ≠ v.ownBlock := fun q hq e => by have := (h.own.lt q e.symm).1; omega
  exact ⟨h.x.grown hg (hne _ (by omega)), ⟨h.hc.bn.grown hg (hne _ (by omega)), h.hc.br.grown hg (hne _ (by omega)), h.hc.bu.grown hg (hne _ (by omega)), h.hc.bg.grown hg (hne _ (by omega))⟩, h.f6.grown hg (hne _ (by omega)), ho,
    h.blw.grown hg (by omega) (fun q e => by have := (h.own.lt q e).1; omega), by omega⟩
end
/-- What Make answers. -/
def MakeR (w : World) (n : PNet) (rs : List Rq) (e : Ending) (w' : World) : Prop :=
  (makeB n rs = true ∧ ∃ (A : Option Addr) (kap : Nat), e = .returned (.tuple #[.slice A n.flows.length kap, .bool true]) ∧ RowsAt w' w'.heap.size 1 icell A (rsnL n rs n.flows.length) ∧ Below w.heap.size w w') ∨
  (makeB n rs = false ∧ e = .returned (.tuple #[.slice none 0 0, .bool false]) ∧ Below w.heap.size w w')
set_option maxRecDepth 100000 in
set_option maxHeartbeats 16000000 in
theorem make_c (n : PNet) (rs : List Rq) (rA : Option Addr) (rk : Nat) (w : World) (hn : NetAt w w.heap.size n) (hv : netOk n = true) (hr : RowsAt w w.heap.size 2 ccell rA rs) (hrl : rs.length = n.flows.length) (hro : AllOk rs) : Calls Try.prog 19 #[nval n, .slice rA n.flows.length rk] w (MakeR w n rs) := by
  have HN := Kept.mk hn
  have HRS := Kept.mk hr
  have HRL := Kept.mk hrl
  have FC := fun w h1 h2 => feas_c n rs rA rk w h1 hv h2 hrl hro
  have HLC := Kept.mk (fun w h1 h2 h3 => holds_c n rs rA rk w h1 hv h2 hrl hro h3)
  have HIX := Kept.mk (fun bN bR bU gU b6 b8 i l A kap w h1 h2 h3 h4 h5 h6 => idxfn_c n rs rA rk bN bR bU gU b6 b8 i l A kap w h1 h2 h3 hv h4 hrl hro h5 h6)
  have HLK := Kept.mk (netOk_links hv)
  have hsz : n.caps.length ≤ 32 ∧ n.flows.length ≤ 32 := by
    unfold netOk at hv
    rw [Bool.and_eq_true, Bool.and_eq_true, decide_eq_true_eq, decide_eq_true_eq] at hv
    exact ⟨hv.1, hv.2.1⟩
  obtain ⟨hc32, hf32⟩ := hsz
  clear hn hv hr hrl hro
  obtain ⟨caps, cA, ck, flows, fA, fk⟩ := n
  dsimp only at hf32 hc32 HRL
  unfold nval at FC HLC ⊢
  dsimp only at FC HLC ⊢
  have HX0 := Kept.mk (Blk.new w 25 #[.slice cA caps.length ck, .slice fA flows.length fk])
  have HD0 : Kept (Below w.heap.size w (w.alloc (.cells #[.slice cA caps.length ck, .slice fA flows.length fk] 25))) := ⟨by go_grown⟩
  have HN0 := HN.out.new_ HD0.out
  have HRS0 := HRS.out.new_ HD0.out
  have n0 := HX0.out.cell 0 (v := .slice cA caps.length ck) rfl
  have n1 := HX0.out.cell 1 (v := .slice fA flows.length fk) rfl
  obtain ⟨R, hR⟩ : ∃ R, R = MakeR w ⟨caps, cA, ck, flows, fA, fk⟩ rs := ⟨_, rfl⟩
  rw [← hR]
  have HR := Kept.mk hR
  clear hR
  cases hfe : feasB ⟨caps, cA, ck, flows, fA, fk⟩ rs with
  | false =>
    have HFE := Kept.mk hfe
    have HMK : Kept (makeB ⟨caps, cA, ck, flows, fA, fk⟩ rs = false) := ⟨by unfold makeB; rw [hfe]; rfl⟩
    clear hfe
    go_enter Try.func19, Try.ntmps19
    go_wp2_with (go_at_call 17; refine (FC _ HN0 HRS0).mono ?_; rintro e w1 ⟨rfl, hb1⟩; rw [HFE.out]; have HX1 := Kept.mk (HX0.out.new_ hb1); have HD1 := Kept.mk (join HD0.out hb1); clear hb1 n0 n1; have n0 := HX1.out.cell 0 (v := .slice cA caps.length ck) rfl; have n1 := HX1.out.cell 1 (v := .slice fA flows.length fk) rfl; have nl := HX1.out.lt; have HN1 := HN.out.new_ HD1.out; have HRS1 := HRS.out.new_ HD1.out)
    rw [HR.out]
    exact Or.inr ⟨HMK.out, rfl, HD1.out⟩
  | true =>
    have HFE := Kept.mk hfe
    have hle : (loadP ⟨caps, cA, ck, flows, fA, fk⟩ rs).2 = 0 := by
      unfold feasB at hfe
      rw [Bool.and_eq_true, decide_eq_true_eq] at hfe
      exact hfe.1
    have HLE := Kept.mk hle
    clear hfe hle
    go_enter Try.func19, Try.ntmps19
    go_upto_region 5 with (first | (go_at_call 17; refine (FC _ HN0 HRS0).mono ?_; rintro e w1 ⟨rfl, hb1⟩; rw [HFE.out]; have HX1 := Kept.mk (HX0.out.new_ hb1); have HD1 := Kept.mk (join HD0.out hb1); clear hb1 n0 n1; have n0 := HX1.out.cell 0 (v := .slice cA caps.length ck) rfl; have n1 := HX1.out.cell 1 (v := .slice fA flows.length fk) rfl; have nl := HX1.out.lt; have HN1 := HN.out.new_ HD1.out; have HRS1 := HRS.out.new_ HD1.out) | (go_at_call 43; refine (HLC.out _ HN1 HRS1 HLE.out).mono ?_; intro e w2 hho; obtain ⟨bN, bR, bU, gU, rfl, hhc, hlo, hb2⟩ := hho; have HX2 := Kept.mk (HX1.out.new_ hb2); have HD2 := Kept.mk (join HD1.out hb2); have HHC := Kept.mk hhc; have HLO := Kept.mk hlo; have HS2 := Kept.mk hb2.size; clear hb2 hhc hlo n0 n1 nl))
    obtain ⟨b6, hb6⟩ : ∃ b, b = w2.heap.size := ⟨_, rfl⟩
    obtain ⟨b0, hb0⟩ : ∃ b, b = w2.heap.size + 1 := ⟨_, rfl⟩
    obtain ⟨V, hV, HV⟩ : ∃ V, V = (w2.alloc (.cells #[.func (.func 60) #[] #[.pointer (some ⟨bN, 0, none⟩), .pointer (some ⟨bR, 0, none⟩), .pointer (some ⟨bU, 0, none⟩)]] 84)).alloc (.cells #[] 3) ∧ Kept (MB w V ⟨caps, cA, ck, flows, fA, fk⟩ rs rA rk bN bR bU gU b6 b0 (.slice (some ⟨b6 + 1, 0, none⟩) 0 0) (rsnL ⟨caps, cA, ck, flows, fA, fk⟩ rs 0)) := by
      subst hb6 hb0
      have ho := World.ownsRow_lit (base := w2.heap.size + 1) (e := 3) (size := 1) (w2.alloc (.cells #[.func (.func 60) #[] #[.pointer (some ⟨bN, 0, none⟩), .pointer (some ⟨bR, 0, none⟩), .pointer (some ⟨bU, 0, none⟩)]] 84)) #[] 0 (by rw [World.size_alloc]; omega) (by unfold maxLen; omega) rfl
      rw [World.size_alloc] at ho
      have l1 := HX2.out.lt
      exact ⟨_, rfl, ⟨⟨(HX2.out.alloc _).alloc _, (HHC.out.alloc _).alloc _, (Blk.new _ _ _).alloc _, ho, (HD2.out.alloc HD2.out.size _).alloc (by rw [World.size_alloc]; omega) _, by have := HHC.out.bn.lt; have := HHC.out.br.lt; have := HHC.out.bu.lt; have := HHC.out.bg.lt; rw [World.size_alloc, World.size_alloc]; omega⟩⟩⟩
    obtain ⟨v7, hv7⟩ : ∃ v, v = Value.slice (some ⟨b6 + 1, 0, none⟩) 0 0 := ⟨_, rfl⟩
    rw [← hV, ← hb6, ← hv7]
    rw [← hv7] at HV
    clear hV hb6 hb0 hv7 HX2 HD2 HHC HLO HS2 HX1 HD1 HN1 HRS1 HX0 HD0 HN0 HRS0
    have n1 := HV.out.x.cell 1 (v := .slice fA flows.length fk) rfl
    have nl := HV.out.x.lt
    go_wp2_with fail
    go_loopw [7, 23] (fun v7 v wr => ∃ k : Nat, k ≤ flows.length ∧ v = .int .i64 k ∧ Kept (∀ j, j < k → (rsnK ⟨caps, cA, ck, flows, fA, fk⟩ rs j).isSome = true) ∧ Kept (MB w wr ⟨caps, cA, ck, flows, fA, fk⟩ rs rA rk bN bR bU gU b6 b0 v7 (rsnL ⟨caps, cA, ck, flows, fA, fk⟩ rs k))) (fun _ v _ => flows.length - (intOf v).toNat)
    case atStart => exact ⟨0, Nat.zero_le _, rfl, ⟨fun j hj => absurd hj (by omega)⟩, HV⟩
    case round =>
      clear HV n1 nl
      obtain ⟨k, hk, rfl, HP, HV⟩ := hrel
      by_cases hlt : k < flows.length
      · obtain ⟨p, bF, oF, hp, rfl, -, hbF, ⟨c0, c1, c2, c3⟩, hfl⟩ := (HN.out.new_ HV.out.blw).flowAt hlt
        obtain ⟨ls, pA, kap, pb, pd⟩ := p
        dsimp only at c0 c1 c2 c3 hp
        have HFO := Kept.mk (flo_of (n := ⟨caps, cA, ck, flows, some ⟨bF, oF, none⟩, fk⟩) hp)
        have HTR : Kept (tries ⟨caps, cA, ck, flows, some ⟨bF, oF, none⟩, fk⟩ k = -1 :: ls) := ⟨by unfold tries; rw [HFO.out]⟩
        have hlm : ls.length ≤ kap := hfl.le
        have hkm : kap ≤ maxLen := hfl.mx
        have hls32 : ls.length ≤ 32 := Nat.le_trans (nodup_le _ _ (HLK.out.nd _ (List.mem_of_getElem? hp)) (HLK.out.rg _ (List.mem_of_getElem? hp))) hc32
        have HRDL := Kept.mk hfl.rd
        dsimp only at HRDL
        clear hp hfl hbF
        go_upto_region 8 with fail
        obtain ⟨b8, hb8⟩ : ∃ b, b = wr.heap.size := ⟨_, rfl⟩
        obtain ⟨b9, hb9⟩ : ∃ b, b = b8 + 1 := ⟨_, rfl⟩
        obtain ⟨U, hU, HU⟩ : ∃ U, U = (wr.alloc (.cells #[.int .i64 (k : Int)] 3)).alloc (.cells #[.slice pA ls.length kap, .bool pb, .int .i64 pd.n, .int .i64 pd.d] 37) ∧ Kept (MB w U ⟨caps, cA, ck, flows, some ⟨bF, oF, none⟩, fk⟩ rs rA rk bN bR bU gU b6 b0 u7 (rsnL ⟨caps, cA, ck, flows, some ⟨bF, oF, none⟩, fk⟩ rs k) ∧ Blk U b8 3 #[.int .i64 (k : Int)] ∧ Blk U b9 37 #[.slice pA ls.length kap, .bool pb, .int .i64 pd.n, .int .i64 pd.d] ∧ b8 < U.heap.size ∧ b9 < U.heap.size) := by
          subst hb8 hb9
          have h2 : Blk ((wr.alloc (.cells #[.int .i64 (k : Int)] 3)).alloc (.cells #[.slice pA ls.length kap, .bool pb, .int .i64 pd.n, .int .i64 pd.d] 37)) (wr.heap.size + 1) 37 #[.slice pA ls.length kap, .bool pb, .int .i64 pd.n, .int .i64 pd.d] := by
            have := Blk.new (wr.alloc (.cells #[.int .i64 (k : Int)] 3)) 37 #[.slice pA ls.length kap, .bool pb, .int .i64 pd.n, .int .i64 pd.d]
            rwa [World.size_alloc] at this
          exact ⟨_, rfl, ⟨HV.out.new_ (((Below.refl _ _).alloc (Nat.le_refl _) _).alloc (by rw [World.size_alloc]; omega) _), (Blk.new _ _ _).alloc _, h2, by rw [World.size_alloc, World.size_alloc]; omega, h2.lt⟩⟩
        rw [← hU, ← hb8, ← hb9]
        have HUS : Kept (wr.heap.size ≤ U.heap.size) := ⟨by rw [hU, World.size_alloc, World.size_alloc]; omega⟩
        have HRDU := Kept.mk (HRDL.out.keep (w' := U) (fun q hq => by rw [hU]; exact (World.cell?_alloc_lt _ _ q (by rw [World.size_alloc]; omega)).trans (World.cell?_alloc_lt _ _ q (by omega))))
        clear hU hb8 hb9 HV c0 c1 c2 c3
        have q0 := HU.out.2.2.1.cell 0 (v := .slice pA ls.length kap) rfl
        have q1 := HU.out.2.2.2.2
        obtain ⟨i4, hi4, hz0, hz1, hz2⟩ := info_parts infoI
        obtain ⟨TR, hTR⟩ : ∃ T, T = -1 :: ls := ⟨_, rfl⟩
        have hTl : 1 + ls.length = TR.length := by rw [hTR, List.length_cons]; omega
        have hTm : TR.length ≤ 33 := by omega
        have HTF : Kept ([.int .i64 (-1)] ++ ls.flatMap icell = TR.flatMap icell) := ⟨by rw [hTR]; rfl⟩
        have HRK : Kept (rsnK ⟨caps, cA, ck, flows, some ⟨bF, oF, none⟩, fk⟩ rs k = TR.findIdx? (holdB ⟨caps, cA, ck, flows, some ⟨bF, oF, none⟩, fk⟩ rs k)) := ⟨by unfold rsnK; rw [HTR.out, hTR]⟩
        have HRO2 : Kept (rsnOf ⟨caps, cA, ck, flows, some ⟨bF, oF, none⟩, fk⟩ rs k = TR.getD ((rsnK ⟨caps, cA, ck, flows, some ⟨bF, oF, none⟩, fk⟩ rs k).getD 0) 0) := ⟨by unfold rsnOf; rw [HTR.out, hTR]⟩
        have HTL := Kept.mk hTl
        clear hTR hTl
        have HOL := Kept.mk (World.ownsRow_lit (base := U.heap.size) (e := 3) (size := 1) U #[.int .i64 (-1)] 1 (Nat.le_refl _) (by unfold maxLen; omega) rfl)
        have HRDA := Kept.mk (HRDU.out.rd.alloc HUS.out (.cells #[.int .i64 (-1)] 3))
        have HUQ := Kept.mk (HU.out.2.2.1.alloc (.cells #[.int .i64 (-1)] 3))
        have q0 := HUQ.out.cell 0 (v := .slice pA ls.length kap) rfl
        go_upto_region 9 with (at_builtin; refine wpList_append_any _ rfl _ _ _ rfl U.heap.size 3 i4 _ 1 8 Try.underlying35 hi4 hz0 hz1 hz2 rfl (by omega) _ 1 _ rfl HOL.out _ pA ls.length kap _ rfl HRDA.out (icell_one ls) (by unfold maxLen; omega) (by omega) (by simp only [World.size_alloc]; omega) ?_; intro v' w9 ho hgw hat; have HBU : Kept (Below U.heap.size U w9) := ⟨((Below.refl _ _).alloc (Nat.le_refl _) _).grown hgw (by rw [World.size_alloc]; omega) (fun q e => (HOL.out.lt q e).1)⟩; rw [HTF.out] at ho; rw [HTL.out] at ho; obtain ⟨A2, k2, rfl⟩ := own_slice ho; have HTO := Kept.mk (RowsAt.of_own ho icell_len (by omega) rfl); have HS9 := Kept.mk hgw.size; clear ho hgw hat q0)
        have HU9 : Kept (MB w w9 ⟨caps, cA, ck, flows, some ⟨bF, oF, none⟩, fk⟩ rs rA rk bN bR bU gU b6 b0 u7 (rsnL ⟨caps, cA, ck, flows, some ⟨bF, oF, none⟩, fk⟩ rs k) ∧ MK w9 ⟨caps, cA, ck, flows, some ⟨bF, oF, none⟩, fk⟩ rs rA rk bN bR bU gU b6 b8 k) := ⟨HU.out.1.new_ HBU.out, (HU.out.1.new_ HBU.out).hc, (HU.out.1.new_ HBU.out).f6, HU.out.2.1.new_ HBU.out⟩
        have HN9 := HN.out.new_ HU9.out.1.blw
        have HRS9 := HRS.out.new_ HU9.out.1.blw
        clear HU HBU HOL HRDA HUQ HRDU q1
        cases hfi : rsnK ⟨caps, cA, ck, flows, some ⟨bF, oF, none⟩, fk⟩ rs k with
        | none =>
          have HID : Kept (idxF (holdB ⟨caps, cA, ck, flows, some ⟨bF, oF, none⟩, fk⟩ rs k) TR = -1) := ⟨by unfold idxF; rw [← HRK.out, hfi]⟩
          have HMK : Kept (makeB ⟨caps, cA, ck, flows, some ⟨bF, oF, none⟩, fk⟩ rs = false) := ⟨make_none (n := ⟨caps, cA, ck, flows, some ⟨bF, oF, none⟩, fk⟩) hlt hfi⟩
          clear hfi
          go_wp2_with (go_at_call 44; refine (HIX.out bN bR bU gU b6 b8 k TR A2 k2 _ HTO.out (by omega) HN9 HRS9 HU9.out.2 hlt).mono ?_; rintro e w10 ⟨rfl, hb10⟩; rw [HID.out]; have HD10 := Kept.mk (join HU9.out.1.blw hb10); clear hb10)
          rw [HR.out]
          exact Or.inr ⟨HMK.out, rfl, HD10.out⟩
        | some m =>
          have HID : Kept (idxF (holdB ⟨caps, cA, ck, flows, some ⟨bF, oF, none⟩, fk⟩ rs k) TR = m) := ⟨by unfold idxF; rw [← HRK.out, hfi]⟩
          have HNP : Kept (∀ j, j < k + 1 → (rsnK ⟨caps, cA, ck, flows, some ⟨bF, oF, none⟩, fk⟩ rs j).isSome = true) := ⟨below_next HP.out (by rw [hfi]; rfl)⟩
          have hmT : m < TR.length := by
            have := HRK.out
            rw [hfi] at this
            obtain ⟨h, -⟩ := List.findIdx?_eq_some_iff_getElem.1 this.symm
            exact h
          obtain ⟨y, hy⟩ := get_some hmT
          have HRY : Kept (rsnL ⟨caps, cA, ck, flows, some ⟨bF, oF, none⟩, fk⟩ rs (k + 1) = rsnL ⟨caps, cA, ck, flows, some ⟨bF, oF, none⟩, fk⟩ rs k ++ [y]) := ⟨by rw [rsnL_next, HRO2.out, hfi, Option.getD_some, List.getD_eq_getElem?_getD, hy]; rfl⟩
          have HY := Kept.mk hy
          clear hfi hy
          go_upto_region 12 with (go_at_call 44; refine (HIX.out bN bR bU gU b6 b8 k TR A2 k2 _ HTO.out (by omega) HN9 HRS9 HU9.out.2 hlt).mono ?_; rintro e w10 ⟨rfl, hb10⟩; rw [HID.out]; have HD10 := Kept.mk (HU9.out.1.new_ hb10); have HTO10 := Kept.mk (HTO.out.new_ hb10); clear hb10)
          obtain ⟨y', bT, oT, hy', rfl, -, -, hcl⟩ := HTO10.out.at_ hmT
          rw [HY.out] at hy'
          injection hy' with hy'
          subst hy'
          have t0 := hcl 0 (.int .i64 y) rfl
          simp only [Nat.add_zero, Nat.mul_one] at t0
          obtain ⟨L, hL⟩ : ∃ L, L = rsnL ⟨caps, cA, ck, flows, some ⟨bF, oF, none⟩, fk⟩ rs k := ⟨_, rfl⟩
          have hLk : L.length ≤ 32 := by rw [hL, rsnL_len]; omega
          rw [← hL] at HD10 HRY
          clear hL hcl HU9 HN9 HRS9 HTO HTO10
          have HOA := Kept.mk (HD10.out.new_ ((Below.refl w10.heap.size w10).alloc (Nat.le_refl _) (.cells #[.int .i64 y] 3)))
          have HRL := Kept.mk (reads_made w10 #[.int .i64 y] 3 1 1 rfl)
          have hb0 := HD10.out.lo.2.2.2.2.2.2
          go_wp2_with (at_builtin; refine wpList_append_any _ rfl _ _ _ rfl b0 3 i4 _ 1 8 Try.underlying49 hi4 hz0 hz1 hz2 rfl (by omega) _ L.length _ rfl HOA.out.own _ _ 1 1 _ rfl HRL.out (fun u hu => by simp at hu; subst hu; rfl) (by unfold maxLen; omega) (by omega) (by simp only [World.size_alloc]; omega) ?_; intro v' w11 ho hgw hat; have HO11 : Kept (MB w w11 ⟨caps, cA, ck, flows, some ⟨bF, oF, none⟩, fk⟩ rs rA rk bN bR bU gU b6 b0 v' (L ++ [y])) := ⟨HOA.out.grow (by rw [List.length_append, List.flatMap_append]; exact ho) hgw⟩; clear ho hgw hat)
          go_roundw
          case rel => exact ⟨k + 1, by omega, by go_num, HNP, by rw [HRY.out]; exact HO11⟩
          case measure => simp [intOf]; omega
      · obtain rfl : k = flows.length := by omega
        clear hlt
        have HMK : Kept (makeB ⟨caps, cA, ck, flows, fA, fk⟩ rs = true) := ⟨by unfold makeB; rw [HFE.out, Bool.true_and]; exact List.all_eq_true.2 fun j hj => HP.out j (List.mem_range.1 hj)⟩
        obtain ⟨A9, k9, rfl⟩ := own_slice HV.out.own
        rw [rsnL_len]
        go_wp2_with fail
        rw [HR.out]
        exact Or.inl ⟨HMK.out, A9, k9, rfl, RowsAt.of_own HV.out.own icell_len (by omega) rfl, HV.out.blw⟩
end Go.Proofs.Ytjalegdfofogcaa
namespace Go.Proofs.Ytjalegdfofogcaa
set_option linter.unusedVariables false
set_option linter.unusedSimpArgs false
open Go.RowKit
set_option maxHeartbeats 4000000 in
theorem fair_c (n : PNet) (rs : List Rq) (rA : Option Addr) (rk : Nat) (w : World) (hn : NetAt w w.heap.size n) (hv : netOk n = true) (hr : RowsAt w w.heap.size 2 ccell rA rs) (hrl : rs.length = n.flows.length) (hro : AllOk rs) : Calls Try.prog 18 #[nval n, .slice rA n.flows.length rk] w fun e w' => e = .returned (.bool (makeB n rs)) ∧ Below w.heap.size w w' := by
  have MC := fun w h1 h2 => make_c n rs rA rk w h1 hv h2 hrl hro
  have HN := Kept.mk hn
  have HRS := Kept.mk hr
  clear hn hv hr hrl hro
  obtain ⟨caps, cA, ck, flows, fA, fk⟩ := n
  unfold nval at MC ⊢
  dsimp only at MC ⊢
  have HX0 := Kept.mk (Blk.new w 25 #[.slice cA caps.length ck, .slice fA flows.length fk])
  have HD0 : Kept (Below w.heap.size w (w.alloc (.cells #[.slice cA caps.length ck, .slice fA flows.length fk] 25))) := ⟨by go_grown⟩
  have HN0 := HN.out.new_ HD0.out
  have HRS0 := HRS.out.new_ HD0.out
  have n0 := HX0.out.cell 0 (v := .slice cA caps.length ck) rfl
  have n1 := HX0.out.cell 1 (v := .slice fA flows.length fk) rfl
  cases hmb : makeB ⟨caps, cA, ck, flows, fA, fk⟩ rs with
  | true =>
    have HMB := Kept.mk hmb
    clear hmb
    go_enter Try.func18, Try.ntmps18
    go_wp2_with (go_at_call 19; refine (MC _ HN0 HRS0).mono ?_; intro e w1 hm; rcases hm with ⟨-, A, kap, rfl, -, hb1⟩ | ⟨habs, -⟩; rotate_left; exact absurd HMB.out (by rw [habs]; decide); have HD1 := Kept.mk (join HD0.out hb1); clear hb1)
    go_ret
    exact ⟨rfl, HD1.out⟩
  | false =>
    have HMB := Kept.mk hmb
    clear hmb
    go_enter Try.func18, Try.ntmps18
    go_wp2_with (go_at_call 19; refine (MC _ HN0 HRS0).mono ?_; intro e w1 hm; rcases hm with ⟨habs, -⟩ | ⟨-, rfl, hb1⟩; exact absurd HMB.out (by rw [habs]; decide); have HD1 := Kept.mk (join HD0.out hb1); clear hb1)
    go_ret
    exact ⟨rfl, HD1.out⟩
theorem make_hold {n : PNet} {rs : List Rq} (h : makeB n rs = true) {i : Nat} (hi : i < n.flows.length) : holdB n rs i (rsnOf n rs i) = true ∧ rsnOf n rs i ∈ tries n i := by
  unfold makeB at h
  rw [Bool.and_eq_true, List.all_eq_true] at h
  have hs := h.2 i (List.mem_range.2 hi)
  unfold rsnOf
  cases hk : rsnK n rs i with
  | none => rw [hk] at hs; cases hs
  | some k =>
    unfold rsnK at hk
    obtain ⟨h1, h2, -⟩ := List.findIdx?_eq_some_iff_getElem.1 hk
    rw [Option.getD_some, List.getD_eq_getElem?_getD, List.getElem?_eq_getElem h1, Option.getD_some]
    exact ⟨h2, List.getElem_mem h1⟩
theorem make_feas {n : PNet} {rs : List Rq} (h : makeB n rs = true) : feasB n rs = true := by
  unfold makeB at h
  rw [Bool.and_eq_true] at h
  exact h.1
theorem feas_load {n : PNet} {rs : List Rq} (h : feasB n rs = true) : (loadP n rs).2 = 0 := by
  unfold feasB at h
  rw [Bool.and_eq_true, decide_eq_true_eq] at h
  exact h.1
set_option maxRecDepth 100000 in
set_option maxHeartbeats 4000000 in
theorem check_c (n : PNet) (rs : List Rq) (rA qA : Option Addr) (rk qk : Nat) (w : World) (hn : NetAt w w.heap.size n) (hv : netOk n = true) (hr : RowsAt w w.heap.size 2 ccell rA rs) (hrl : rs.length = n.flows.length) (hro : AllOk rs) (hm : makeB n rs = true) (hq : RowsAt w w.heap.size 1 icell qA (rsnL n rs n.flows.length)) : Calls Try.prog 20 #[nval n, .slice rA n.flows.length rk, .slice qA n.flows.length qk] w fun e w' => e = .returned (.slice none 0 0) ∧ Below w.heap.size w w' := by
  have HN := Kept.mk hn
  have HRS := Kept.mk hr
  have FC := fun w h1 h2 => feas_c n rs rA rk w h1 hv h2 hrl hro
  have HLC := Kept.mk (fun w h1 h2 => holds_c n rs rA rk w h1 hv h2 hrl hro (feas_load (make_feas hm)))
  have HHC := Kept.mk (fun bN bR bU gU i x w h1 h2 h3 h4 => hold_c n rs rA rk bN bR bU gU i x w h1 hv h2 hrl hro h3 h4)
  have HQ := Kept.mk hq
  have HFE := Kept.mk (make_feas hm)
  have HMH := Kept.mk (fun i hi => (make_hold hm (i := i) hi).1)
  have hf32 : n.flows.length ≤ 32 := by
    unfold netOk at hv
    rw [Bool.and_eq_true, Bool.and_eq_true, decide_eq_true_eq, decide_eq_true_eq] at hv
    exact hv.2.1
  clear hn hv hr hrl hro hq hm
  obtain ⟨caps, cA, ck, flows, fA, fk⟩ := n
  dsimp only at hf32
  unfold nval at FC HLC ⊢
  dsimp only at FC HLC ⊢
  have HX0 := Kept.mk (Blk.new w 25 #[.slice cA caps.length ck, .slice fA flows.length fk])
  have HD0 : Kept (Below w.heap.size w (w.alloc (.cells #[.slice cA caps.length ck, .slice fA flows.length fk] 25))) := ⟨by go_grown⟩
  have HN0 := HN.out.new_ HD0.out
  have HRS0 := HRS.out.new_ HD0.out
  have n0 := HX0.out.cell 0 (v := .slice cA caps.length ck) rfl
  have n1 := HX0.out.cell 1 (v := .slice fA flows.length fk) rfl
  go_enter Try.func20, Try.ntmps20
  go_upto_region 5 with (first | (go_at_call 17; refine (FC _ HN0 HRS0).mono ?_; rintro e w1 ⟨rfl, hb1⟩; rw [HFE.out]; have HX1 := Kept.mk (HX0.out.new_ hb1); have HD1 := Kept.mk (join HD0.out hb1); clear hb1 n0 n1; have n0 := HX1.out.cell 0 (v := .slice cA caps.length ck) rfl; have n1 := HX1.out.cell 1 (v := .slice fA flows.length fk) rfl; have nl := HX1.out.lt; have HN1 := HN.out.new_ HD1.out; have HRS1 := HRS.out.new_ HD1.out) | (go_at_call 43; refine (HLC.out _ HN1 HRS1).mono ?_; intro e w2 hho; obtain ⟨bN, bR, bU, gU, rfl, hhc, -, hb2⟩ := hho; have HW2 : Kept (HC w2 ⟨caps, cA, ck, flows, fA, fk⟩ rs rA rk bN bR bU gU (fullL ⟨caps, cA, ck, flows, fA, fk⟩ rs) ∧ Below w.heap.size w w2) := ⟨hhc, join HD1.out hb2⟩; clear hb2 hhc n0 n1 nl))
  clear HX1 HD1 HN1 HRS1 HX0 HD0 HN0 HRS0 FC HLC
  go_wp2_with fail
  go_loopw [7, 29] (fun v7 v wr => ∃ k : Nat, k ≤ flows.length ∧ v = .int .i64 k ∧ v7 = .slice none 0 0 ∧ Kept (HC wr ⟨caps, cA, ck, flows, fA, fk⟩ rs rA rk bN bR bU gU (fullL ⟨caps, cA, ck, flows, fA, fk⟩ rs) ∧ Below w.heap.size w wr)) (fun _ v _ => flows.length - (intOf v).toNat)
  case atStart => exact ⟨0, Nat.zero_le _, rfl, rfl, HW2⟩
  case round =>
    clear HW2
    obtain ⟨k, hk, rfl, rfl, HV⟩ := hrel
    by_cases hlt : k < flows.length
    · obtain ⟨y, bT, oT, hy, rfl, -, -, hcl⟩ := (HQ.out.new_ HV.out.2).at_ (show k < (rsnL ⟨caps, cA, ck, flows, fA, fk⟩ rs flows.length).length by rw [rsnL_len]; exact hlt)
      have t0 := hcl 0 (.int .i64 y) rfl
      simp only [Nat.add_zero, Nat.mul_one] at t0
      have hye : y = rsnOf ⟨caps, cA, ck, flows, fA, fk⟩ rs k := by
        unfold rsnL at hy
        rw [List.getElem?_map, List.getElem?_range hlt] at hy
        injection hy with hy
        exact hy.symm
      have HO := HHC.out bN bR bU gU k y wr (HN.out.new_ HV.out.2) (HRS.out.new_ HV.out.2) HV.out.1 hlt
      have hyt : holdB ⟨caps, cA, ck, flows, fA, fk⟩ rs k y = true := by rw [hye]; exact HMH.out k hlt
      rw [hyt] at HO
      clear hcl hy hye hyt
      go_wp2_with (go_at_call 60; refine HO.mono ?_; rintro e w3 ⟨rfl, hb3⟩; have HV3 : Kept (HC w3 ⟨caps, cA, ck, flows, fA, fk⟩ rs rA rk bN bR bU gU (fullL ⟨caps, cA, ck, flows, fA, fk⟩ rs) ∧ Below w.heap.size w w3) := ⟨HV.out.1.new_ hb3, join HV.out.2 hb3⟩; clear hb3)
      go_roundw
      case rel => exact ⟨k + 1, by omega, by go_num, rfl, HV3⟩
      case measure => simp [intOf]; omega
    · obtain rfl : k = flows.length := by omega
      clear hlt
      go_wp2_with fail
      go_ret
      exact ⟨rfl, HV.out.2⟩
end Go.Proofs.Ytjalegdfofogcaa
