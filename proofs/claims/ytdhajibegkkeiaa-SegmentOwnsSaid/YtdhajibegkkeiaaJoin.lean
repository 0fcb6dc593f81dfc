/- Segment: the walk of Join (printed by gen_join.py). -/
import Derived.Test.YtdhajibegkkeiaaWalks
import Derived.Test.YtdhajibegkkeiaaMem
import Derived.Test.YtdhajibegkkeiaaMaps
import Derived.Laws.CopyOwn
import Derived.Deep.RegionLaw
namespace Go.Proofs.Ytdhajibegkkeiaa
set_option linter.unusedVariables false
set_option linter.unusedSimpArgs false
open Go.RowKit Go.Maps
def Joins (w : World) (l : List Seg) (e : Ending) (w' : World) : Prop :=
  ∃ (r : Res) (v : Value), JoinIs l r ∧ Bytes r.data ∧ e = .returned (.tuple #[v, .int .i64 r.off, .bool r.last, .int .i64 r.e]) ∧ w'.ownsRow w.heap.size 5 1 v r.data.length (bv r.data) ∧ Below w.heap.size w w'
theorem joins_err {w w' : World} {l : List Seg} {x : Int} (h : JoinIs l (errR x)) (hb : Below w.heap.size w w') : Joins w l (.returned (.tuple #[.slice none 0 0, .int .i64 0, .bool false, .int .i64 x])) w' :=
  ⟨errR x, .slice none 0 0, h, by intro x hx; simp [errR] at hx, rfl, World.ownsRow_nil _ _ _ _, hb⟩
theorem join_full (l : List PSeg) (A : Option Addr) (kap : Nat) (w : World) (hn : 1000 < l.length) (hn2 : l.length ≤ 1000000) :
    Calls Try.prog 25 #[.slice A l.length kap] w (Joins w (segs l)) := by
  have hq : (1000 : Int) < l.length := by omega
  have hJ := Kept.mk (JoinIs.full (l := segs l) (by rw [segs_len]; exact hn))
  go_enter Try.func25, Try.ntmps25
  go_wp2_with fail
  exact bodyPost_ret (v := .tuple #[.slice none 0 0, .int .i64 0, .bool false, .int .i64 5]) (by simp [results, Try.results25, go_sem]) rfl (joins_err hJ.out (Below.refl _ _))
theorem join_none (A : Option Addr) (kap : Nat) (w : World) :
    Calls Try.prog 25 #[.slice A 0 kap] w (Joins w []) := by
  have hJ := Kept.mk (JoinIs.none_ (l := []) rfl)
  go_enter Try.func25, Try.ntmps25
  go_wp2_with fail
  refine wp_loop_rounds 1 ?_; rw [rounds_succ]
  go_wp2_with fail
  exact bodyPost_ret (v := .tuple #[.slice none 0 0, .int .i64 0, .bool false, .int .i64 0]) (by simp [results, Try.results25, go_sem]) rfl (joins_err hJ.out (Below.refl _ _))
theorem valid_val {p : PSeg} {w : World} (hm : p.s.data.length ≤ maxLen) : Calls Try.prog 14 #[.agg #[.int .i64 p.s.off, .slice p.A p.s.data.length p.kap, .bool p.s.last]] w fun e w' => e = .returned (.bool (validB p.s)) ∧ Below w.heap.size w w' := valid_c p.s p.A p.kap w hm
theorem allV_next {l : List Seg} {k : Nat} {s : Seg} (h : AllV (l.take k)) (hs : l[k]? = some s) (hv : validB s = true) : AllV (l.take (k + 1)) := by
  rw [take_next hs]
  intro t ht
  rcases List.mem_append.1 ht with ht | ht
  · exact h t ht
  · simp at ht; rw [ht]; exact hv
theorem not_allV {l : List Seg} {k : Nat} {s : Seg} (hs : l[k]? = some s) (hv : validB s = false) : ¬ AllV l := fun h => by
  have := h s (List.mem_of_getElem? hs); rw [hv] at this; cases this
def knF (L : List Seg) (o : Int) : Option Value := (kn L o).map (Value.int .u8)
/-- The world while the known bytes are laid down. -/
structure JW (w : World) (lo : Int) (n mb : Nat) (L : List Seg) (sz : Nat) (wr : World) : Prop where
  agree : Agree L
  map : MapI Try.prog 3 wr mb (cnt (kn L) lo n) (knF L)
  le : cnt (kn L) lo n ≤ sz
  below : Below w.heap.size w wr
theorem JW.alloc {w wr : World} {lo : Int} {n mb sz : Nat} {L : List Seg} (h : JW w lo n mb L sz wr) (o : Obj) : JW w lo n mb L sz (wr.alloc o) := ⟨h.agree, MapAt.alloc h.map o, h.le, h.below.alloc h.below.size o⟩
theorem JW.zero {w wr : World} {lo : Int} {n mb sz : Nat} {L : List Seg} (h : JW w lo n mb L sz wr) (s : Seg) : JW w lo n mb (L ++ [s.cut 0]) sz wr :=
  ⟨agree_zero s h.agree, h.map.cast (cnt_congr lo n fun o => by rw [kn_zero]) fun o => by unfold knF; rw [kn_zero], by rw [cnt_congr (G := kn L) lo n fun o => by rw [kn_zero]]; exact h.le, h.below⟩
theorem JW.full {w wr : World} {lo : Int} {n mb sz : Nat} {l : List Seg} {k : Nat} {s : Seg} (h : JW w lo n mb (l.take k ++ [s.cut s.data.length]) sz wr) (hk : l[k]? = some s) : JW w lo n mb (l.take (k + 1)) sz wr := by
  rw [cut_all, ← take_next hk] at h; exact h
theorem JW.more {w wr : World} {lo : Int} {n mb sz sz' : Nat} {L : List Seg} (h : JW w lo n mb L sz wr) (hs : sz ≤ sz') : JW w lo n mb L sz' wr := ⟨h.agree, h.map, Nat.le_trans h.le hs, h.below⟩
theorem JW.next {w wr w' : World} {lo : Int} {n mb sz i : Nat} {L : List Seg} {s : Seg} (h : JW w lo n mb (L ++ [s.cut i]) sz wr) (hi : i < s.data.length)
    (hk : kn L (s.off + i) = none ∨ kn L (s.off + i) = some (s.data.getD i 0)) (h1 : lo ≤ s.off) (h2 : s.off + s.data.length ≤ lo + n)
    (hm : MapI Try.prog 3 w' mb (if (knF (L ++ [s.cut i]) (s.off + i)).isSome = true then cnt (kn (L ++ [s.cut i])) lo n else cnt (kn (L ++ [s.cut i])) lo n + 1) (fun y => if y = s.off + i then some (.int .u8 (s.data.getD i 0)) else knF (L ++ [s.cut i]) y))
    (hg : wr.grownBy w' (some mb)) (hb : w.heap.size ≤ mb) : JW w lo n mb (L ++ [s.cut (i + 1)]) (sz + 1) w' := by
  have hN := fun o => kn_next hi hk o
  have hc : cnt (kn (L ++ [s.cut (i + 1)])) lo n = if (knF (L ++ [s.cut i]) (s.off + i)).isSome = true then cnt (kn (L ++ [s.cut i])) lo n else cnt (kn (L ++ [s.cut i])) lo n + 1 := by
    unfold knF
    rw [kn_here hi]
    rcases hk with hk | hk
    · rw [hk]
      simpa using cnt_put hN ((kn_here hi).trans hk) (by omega) (by omega)
    · rw [hk]
      simpa using cnt_same hN (by rw [kn_here hi, hk]; rfl)
  refine ⟨agree_next hi h.agree hk, hm.cast hc.symm fun o => ?_, ?_, h.below.grown hg h.below.size fun g hg' => by cases hg'; exact hb⟩
  · unfold knF
    rw [hN]
    split <;> rfl
  · rw [hc]
    have := h.le
    split <;> omega
theorem last_next {l : List Seg} {k : Nat} {s : Seg} {hi : Int} (h : ∀ t ∈ l.take k, t.last = true → hi ≤ t.fin) (hs : l[k]? = some s) (hl : s.last = true → hi ≤ s.fin) : ∀ t ∈ l.take (k + 1), t.last = true → hi ≤ t.fin := by
  rw [take_next hs]
  intro t ht
  rcases List.mem_append.1 ht with ht | ht
  · exact h t ht
  · simp at ht; rw [ht]; exact hl
theorem zeroB (w : World) : (zeroValue 5).run Try.prog w = .ok (.int .u8 0) w := by kernel_rfl
theorem made_bytes (n : Nat) : (madeCells (Value.int .u8 0).cells (n * 1)).toList = bv (List.replicate n 0) := by
  simp only [madeCells, Value.cells]
  refine List.ext_getElem (by simp [bv]) fun i h1 h2 => ?_
  simp [bv, Nat.mod_one]
structure DW (w : World) (lo : Int) (n gr : Nat) (L : List Seg) (wr : World) : Prop where
  row : wr.heap[gr]? = some (.cells (bv (dat L lo n)).toArray 5 (0, 0))
  below : Below w.heap.size w wr
theorem dw_made {w5 : World} {B n gr : Nat} {lo : Int} (h : w5.ownsRow B 5 1 (.slice (some ⟨gr, 0, none⟩) n n) n (madeCells (Value.int .u8 0).cells (n * 1)).toList) : w5.heap[gr]? = some (.cells (bv (dat [] lo n)).toArray 5 (0, 0)) := by
  rw [made_bytes] at h
  rcases h.2 with ⟨h1, _⟩ | ⟨g, cap, cur, h1, _, h3, _, _, h6, h7⟩
  · cases h1
  · injection h1 with h1 _ h8
    injection h1 with h1
    injection h1 with h1
    subst h1; subst h8
    have : cur = (bv (List.replicate n 0)).toArray := by
      apply Array.ext'
      rw [← h7, List.take_of_length_le (by rw [Array.length_toList, h6]; exact Nat.le_refl _)]
    rw [h3, this, dat_nil]
theorem lt_of_some {w : World} {g : Nat} {o : Obj} (h : w.heap[g]? = some o) : g < w.heap.size := by
  rcases Nat.lt_or_ge g w.heap.size with hlt | hge
  · exact hlt
  · rw [Array.getElem?_eq_none hge] at h; cases h
theorem splice_dat {w4 : World} {gr d : Nat} {D x : List Int} {lo : Int} (h : w4.heap[gr]? = some (.cells (splice (bv D) d (bv x)).toArray 5 (0, 0))) :
    w4.heap[gr]? = some (.cells (bv (D.take (lo + (d : Int) - lo).toNat ++ x ++ D.drop ((lo + (d : Int) - lo).toNat + x.length))).toArray 5 (0, 0)) := by
  rw [h]
  rw [show (lo + (d : Int) - lo).toNat = d by omega]
  simp [splice, bv, List.map_take, List.map_drop, List.append_assoc]
theorem dw_own {w wr : World} {lo : Int} {n gr : Nat} {l : List Seg} (h : DW w lo n gr l wr) (hg : w.heap.size ≤ gr) (hn : n ≤ 64000) : wr.ownsRow w.heap.size 5 1 (.slice (some ⟨gr, 0, none⟩) n n) (dat l lo n).length (bv (dat l lo n)) := by
  refine ⟨by rw [bv_len]; simp, .inr ⟨gr, n, _, by rw [dat_len], hg, h.row, by rw [dat_len]; exact Nat.le_refl _, by unfold maxLen; omega, by simp [bv_len, dat_len], ?_⟩⟩
  rw [dat_len, List.take_of_length_le (by simp [bv_len, dat_len])]
theorem dat_bytes {l : List Seg} {lo : Int} {n : Nat} (h : ∀ s ∈ l, Bytes s.data) : Bytes (dat l lo n) := by
  intro x hx
  simp only [dat, List.mem_map, List.mem_range] at hx
  obtain ⟨j, _, rfl⟩ := hx
  cases hk : kn l (lo + j) with
  | none => simp
  | some y =>
    obtain ⟨s, hs, hy⟩ := kn_has hk
    obtain ⟨h1, h2, h3⟩ := at_iff.1 hy
    rw [← h3]
    exact (h s hs).at_ (by unfold Seg.fin at h2; omega)
set_option maxRecDepth 100000 in
set_option maxHeartbeats 8000000 in
theorem join_some (l : List PSeg) (A : Option Addr) (kap : Nat) (w : World) (B : Nat) (h : SegsAt w B A l) (hB : B ≤ w.heap.size) (hn : l.length ≤ 1000) (h0 : 0 < l.length) :
    Calls Try.prog 25 #[.slice A l.length kap] w (Joins w (segs l)) := by
  have HS := Kept.mk h
  clear h
  obtain ⟨ii, hii, hz0, hz1, hz2⟩ := info_parts info5
  have hn' : ¬ (1000 : Int) < l.length := by omega
  have hq0 : ((l.length : Int) == 0) = false := beq_false_of_ne (by omega)
  have HL : Kept ((segs l).length = l.length) := ⟨segs_len l⟩
  have HNE : Kept (segs l ≠ []) := ⟨fun e => by have := HL.out; rw [e] at this; simp at this; omega⟩
  have hmm := @run_makeMap Try.prog
  obtain ⟨p0, b0, off0, hp0, rfl, -, hb0, c0, -, -, -⟩ := HS.out.at_ h0
  have HP0 := Kept.mk (segs_get hp0)
  clear hp0
  go_enter Try.func25, Try.ntmps25
  go_wp2_with fail
  go_loopw [4, 27] (fun v4 v27 wr => ∃ k : Nat, k ≤ l.length ∧ v4 = .bool false ∧ v27 = .int .i64 k ∧ Kept (AllV ((segs l).take k)) ∧ Kept (Below w.heap.size w wr)) (fun _ v27 _ => l.length - (intOf v27).toNat)
  case atStart => exact ⟨0, by omega, rfl, rfl, ⟨by intro s hs; simp at hs⟩, ⟨Below.refl _ _⟩⟩
  case round =>
    obtain ⟨k, hk, rfl, rfl, HV, HD⟩ := hrel
    by_cases hlt : k < l.length
    · obtain ⟨p, b, off, hp, e, -, hb, c1, c2, c3, hsg⟩ := (HS.out.below (HD.out.mono hB)).at_ hlt
      obtain ⟨rfl, rfl⟩ : b0 = b ∧ off0 = off := by injection e with e; injection e with e1 e2; exact ⟨e1, e2⟩
      have HP := Kept.mk (segs_get hp)
      have HM := Kept.mk (HS.out.seg p (List.mem_of_getElem? hp))
      clear hp hsg e
      have HZ := HD.out.size
      go_wp2_with fail
      refine (valid_val (Nat.le_trans HM.out.le HM.out.max)).mono ?_
      rintro e w1 ⟨rfl, hb1⟩
      have HD1 : Kept (Below w.heap.size w w1) := ⟨join (HD.out.alloc HZ _) hb1⟩
      clear hb1
      by_cases hv : validB p.s = true
      · rw [hv]
        have HV1 := Kept.mk (allV_next HV.out HP.out hv)
        clear hv
        go_wp2_with fail
        go_roundw
        case rel => exact ⟨k + 1, by omega, rfl, by go_num, HV1, HD1⟩
        case measure => simp [intOf]; omega
      · have hv' : validB p.s = false := by simpa using hv
        rw [hv']
        have HJ := Kept.mk (JoinIs.bad (l := segs l) (by rw [HL.out]; exact hn) (not_allV HP.out hv'))
        clear hv hv'
        go_wp2_with fail
        exact bodyPost_ret (v := .tuple #[.slice none 0 0, .int .i64 0, .bool false, .int .i64 1]) (by simp [results, Try.results25, go_sem]) rfl (joins_err HJ.out HD1.out)
    · obtain rfl : k = l.length := by omega
      have HVA : Kept (AllV (segs l)) := ⟨by have := HV.out; rwa [List.take_of_length_le (by rw [HL.out]; exact Nat.le_refl _)] at this⟩
      clear HV
      have c0' := (HD.out.cell (p := ⟨b0, off0, none⟩) hb0).trans (by simpa using c0)
      have y0 := (valid_iff.1 (HVA.out _ (List.mem_of_getElem? HP0.out))).1
      have y1 := (valid_iff.1 (HVA.out _ (List.mem_of_getElem? HP0.out))).2.2
      clear c0 hlt
      go_wp2_with fail
      go_loopw [8, 9, 44] (fun v8 v9 v44 wr => ∃ (k : Nat) (lo hi : Int), k ≤ l.length ∧ v8 = .int .i64 lo ∧ v9 = .int .i64 hi ∧ v44 = .int .i64 k ∧ 0 ≤ lo ∧ lo ≤ 1099511627776 ∧ 0 ≤ hi ∧ hi ≤ 1099511627776 ∧ Kept (lo = lo0 p0.s.off ((segs l).take k)) ∧ Kept (hi = hi0 0 ((segs l).take k)) ∧ Kept (Below w.heap.size w wr)) (fun _ _ v44 _ => l.length - (intOf v44).toNat)
      case atStart => exact ⟨0, p0.s.off, 0, by omega, rfl, rfl, rfl, y0, by omega, by omega, by omega, ⟨rfl⟩, ⟨rfl⟩, HD⟩
      case round =>
        clear HD
        obtain ⟨k, lo, hi, hk, rfl, rfl, rfl, l1, l2, g1, g2, HLO, HHI, HD⟩ := hrel
        by_cases hlt : k < l.length
        · obtain ⟨p, b, off, hp, e, -, hb, c1, c2, c3, hsg⟩ := (HS.out.below (HD.out.mono hB)).at_ hlt
          obtain ⟨rfl, rfl⟩ : b0 = b ∧ off0 = off := by injection e with e; injection e with e1 e2; exact ⟨e1, e2⟩
          have HP := Kept.mk (segs_get hp)
          have HM := Kept.mk (HS.out.seg p (List.mem_of_getElem? hp))
          obtain ⟨x1, x2, x3⟩ := valid_iff.1 (HVA.out _ (List.mem_of_getElem? HP.out))
          have x2' : (p.s.data.length : Int) ≤ 64 := by omega
          have x4 : (0 : Int) ≤ p.s.data.length := by omega
          clear hp hsg e
          have HLO1 : Kept ((if p.s.off < lo then p.s.off else lo) = lo0 p0.s.off ((segs l).take (k + 1))) := ⟨by rw [take_next HP.out, lo0_snoc, ← HLO.out]; split <;> omega⟩
          have HHI1 : Kept ((if hi < p.s.off + p.s.data.length then p.s.off + p.s.data.length else hi) = hi0 0 ((segs l).take (k + 1))) := ⟨by rw [take_next HP.out, hi0_snoc, ← HHI.out]; unfold Seg.fin; split <;> omega⟩
          have HZ := HD.out.size
          go_wp2_with fail
          go_roundw
          case rel => exact ⟨k + 1, _, _, by omega, rfl, rfl, by go_num, by split <;> omega, by split <;> omega, by split <;> omega, by split <;> omega, HLO1, HHI1, ⟨HD.out.alloc HZ _⟩⟩
          case measure => simp [intOf]; omega
        · obtain rfl : k = l.length := by omega
          have ht : (segs l).take l.length = segs l := List.take_of_length_le (by rw [HL.out]; exact Nat.le_refl _)
          have HLOW : Kept (IsLow (segs l) lo) := ⟨by rw [HLO.out, ht]; exact isLow_of (List.mem_of_getElem? HP0.out)⟩
          have HHIGH : Kept (IsHigh (segs l) hi) := ⟨by rw [HHI.out, ht]; exact isHigh_of ⟨_, List.mem_of_getElem? HP0.out, by unfold Seg.fin; omega⟩⟩
          have hlh : lo ≤ hi := by
            have h1 := HLOW.out.2 _ (List.mem_of_getElem? HP0.out)
            have h2 := HHIGH.out.2 _ (List.mem_of_getElem? HP0.out)
            unfold Seg.fin at h2
            omega
          clear ht HLO HHI hlt
          obtain ⟨n, hnn⟩ : ∃ n : Nat, hi = lo + n := ⟨(hi - lo).toNat, by omega⟩
          subst hnn
          have HZ := HD.out.size
          have HW0 : Kept (JW w lo n wr.heap.size ((segs l).take 0) 0 (wr.alloc (.map #[] 0))) := ⟨⟨agree_nil, (MapI.made wr Try.prog 3).cast (cnt_none (F := kn []) lo n fun o => rfl).symm fun o => rfl, by rw [show (segs l).take 0 = [] from rfl, cnt_none (F := kn []) lo n fun o => rfl]; exact Nat.le_refl _, HD.out.alloc HZ _⟩⟩
          go_wp2_with fail
          obtain ⟨mb, hmb⟩ : ∃ mb, mb = wr.heap.size := ⟨_, rfl⟩
          rw [← hmb] at HW0 ⊢
          have HMB : Kept (w.heap.size ≤ mb) := ⟨by rw [hmb]; exact HZ⟩
          clear hmb HZ
          go_loopw [4, 64] (fun v4 v64 wr => ∃ k : Nat, k ≤ l.length ∧ Kept (v4 = .bool (anyL ((segs l).take k))) ∧ v64 = .int .i64 k ∧ Kept (∀ t ∈ (segs l).take k, t.last = true → lo + n ≤ t.fin) ∧ Kept (JW w lo n mb ((segs l).take k) (64 * k) wr)) (fun _ v64 _ => l.length - (intOf v64).toNat)
          case atStart => exact ⟨0, by omega, ⟨rfl⟩, rfl, ⟨fun t ht => by simp at ht⟩, HW0⟩
          case round =>
            clear HD HW0
            obtain ⟨k, hk, H4, rfl, HLB, HW⟩ := hrel
            obtain ⟨bl, HAL⟩ : ∃ bl, Kept (bl = anyL ((segs l).take k)) := ⟨_, ⟨rfl⟩⟩
            obtain rfl := H4.out.trans (by rw [← HAL.out])
            clear H4
            have HD : Kept (Below w.heap.size w wr) := ⟨HW.out.below⟩
            by_cases hlt : k < l.length
            · obtain ⟨p, b, off, hp, e, -, hb, c1, c2, c3, hsg⟩ := (HS.out.below (HD.out.mono hB)).at_ hlt
              obtain ⟨rfl, rfl⟩ : b0 = b ∧ off0 = off := by injection e with e; injection e with e1 e2; exact ⟨e1, e2⟩
              have HP := Kept.mk (segs_get hp)
              have HM := Kept.mk (HS.out.seg p (List.mem_of_getElem? hp))
              obtain ⟨x1, x2, x3⟩ := valid_iff.1 (HVA.out _ (List.mem_of_getElem? HP.out))
              have x2' : (p.s.data.length : Int) ≤ 64 := by omega
              have x4 : (0 : Int) ≤ p.s.data.length := by omega
              clear hp hsg e
              have q1 : lo ≤ p.s.off := HLOW.out.2 _ (List.mem_of_getElem? HP.out)
              have q2 : p.s.off + p.s.data.length ≤ lo + n := HHIGH.out.2 _ (List.mem_of_getElem? HP.out)
              have HZ := HD.out.size
              rcases hls : p.s.last with _ | _
              · rw [hls] at c3
                have HLS := Kept.mk hls
                have HLN := Kept.mk (last_next HLB.out HP.out (fun h => by rw [hls] at h; cases h))
                clear hls
                cases bl
                · have HAN : Kept (false = anyL ((segs l).take (k + 1))) := ⟨by rw [take_next HP.out, anyL_snoc, ← HAL.out, HLS.out]; rfl⟩
                  go_wp2_with fail
                  obtain ⟨gb, HGB⟩ : ∃ gb, Kept (gb = wr.heap.size) := ⟨_, ⟨rfl⟩⟩
                  have HBX : Kept (Blk (wr.alloc (.cells #[.int .i64 p.s.off, .slice p.A p.s.data.length p.kap, .bool false] 24)) gb 24 #[.int .i64 p.s.off, .slice p.A p.s.data.length p.kap, .bool false]) := ⟨by rw [HGB.out]; exact Blk.new _ _ _⟩
                  rw [← HGB.out]
                  go_loopw [4, 88] (fun v4 v88 wr => ∃ i : Nat, i ≤ p.s.data.length ∧ v4 = .bool false ∧ v88 = .int .i64 i ∧ Kept (JW w lo n mb ((segs l).take k ++ [p.s.cut i]) (64 * k + i) wr) ∧ Kept (Blk wr gb 24 #[.int .i64 p.s.off, .slice p.A p.s.data.length p.kap, .bool false])) (fun _ v88 _ => p.s.data.length - (intOf v88).toNat)
                  case atStart => exact ⟨0, by omega, rfl, rfl, ⟨(HW.out.alloc _).zero p.s⟩, HBX⟩
                  case round =>
                    clear HW HBX
                    obtain ⟨i, hi', rfl, rfl, HW, HBX⟩ := hrel
                    have k0 := HBX.out.cell 0 (v := .int .i64 p.s.off) rfl
                    have hle := HW.out.le
                    by_cases hlt2 : i < p.s.data.length
                    · obtain ⟨b2, off2, e2, -, hb2, d1, z1, z2⟩ := (HM.out.below (HW.out.below.mono hB)).byte hlt2
                      rw [e2]
                      have HE2 := Kept.mk e2
                      rw [e2] at HBX
                      clear e2
                      have HHERE : Kept (knF ((segs l).take k ++ [p.s.cut i]) (p.s.off + i) = (kn ((segs l).take k) (p.s.off + i)).map (Value.int .u8)) := ⟨by unfold knF; rw [kn_here hlt2]⟩
                      obtain ⟨kv, HKV⟩ : ∃ kv, Kept (kn ((segs l).take k) (p.s.off + i) = kv) := ⟨_, ⟨rfl⟩⟩
                      have HF : Kept (knF ((segs l).take k ++ [p.s.cut i]) (p.s.off + i) = kv.map (Value.int .u8)) := ⟨by rw [HHERE.out, HKV.out]⟩
                      obtain ⟨x, HX⟩ : ∃ x, Kept (p.s.data.getD i 0 = x) := ⟨_, ⟨rfl⟩⟩
                      rw [HX.out] at d1 z1 z2
                      have hcase : kv = none ∨ kv = some x ∨ ∃ y, kv = some y ∧ (y != x) = true := by
                        cases kv with
                        | none => exact .inl rfl
                        | some y => by_cases h : y = x; exact .inr (.inl (by rw [h])); exact .inr (.inr ⟨y, rfl, by simpa using h⟩)
                      have w1 : (Lit.int .i64 (p.s.off + i)).wf = true := WalkArith.wf_i64 (by omega)
                      rcases hcase with rfl | rfl | ⟨y, rfl, hne⟩
                      · go_wp2_with (first | (at_lookup; refine wpList_lookOkI rfl _ _ 60 rfl 3 5 Try.underlying3 Try.underlying60 (zeroB _) mb _ (knF ((segs l).take k ++ [p.s.cut i])) rfl HW.out.map (p.s.off + i) rfl w1 ?_; rw [HF.out]; simp only [Option.map_none, Option.map_some, Option.getD_none, Option.getD_some, Option.isSome_none, Option.isSome_some]) | (at_mapUpdate; refine wpList_setI rfl _ _ _ 60 rfl 3 5 Try.underlying3 Try.underlying60 mb _ (knF ((segs l).take k ++ [p.s.cut i])) rfl HW.out.map (by unfold maxLen; omega) (p.s.off + i) (.int .u8 x) rfl rfl w1 ?_; intro w4 hm4 hg4; have HW4 := Kept.mk (HW.out.next hlt2 (by rw [HKV.out, HX.out]; exact .inl rfl) q1 q2 (by rw [HX.out]; exact hm4) hg4 HMB.out); have HB4 := Kept.mk (HBX.out.grown hg4 (by have := MapAt.ne HW.out.map HBX.out; simpa using this)); clear hm4 hg4))
                        go_roundw
                        case rel => exact ⟨i + 1, by omega, rfl, by go_num, ⟨HW4.out.more (by omega)⟩, HB4⟩
                        case measure => simp [intOf]; omega
                      · go_wp2_with (first | (at_lookup; refine wpList_lookOkI rfl _ _ 60 rfl 3 5 Try.underlying3 Try.underlying60 (zeroB _) mb _ (knF ((segs l).take k ++ [p.s.cut i])) rfl HW.out.map (p.s.off + i) rfl w1 ?_; rw [HF.out]; simp only [Option.map_none, Option.map_some, Option.getD_none, Option.getD_some, Option.isSome_none, Option.isSome_some]) | (at_mapUpdate; refine wpList_setI rfl _ _ _ 60 rfl 3 5 Try.underlying3 Try.underlying60 mb _ (knF ((segs l).take k ++ [p.s.cut i])) rfl HW.out.map (by unfold maxLen; omega) (p.s.off + i) (.int .u8 x) rfl rfl w1 ?_; intro w4 hm4 hg4; have HW4 := Kept.mk (HW.out.next hlt2 (by rw [HKV.out, HX.out]; exact .inr rfl) q1 q2 (by rw [HX.out]; exact hm4) hg4 HMB.out); have HB4 := Kept.mk (HBX.out.grown hg4 (by have := MapAt.ne HW.out.map HBX.out; simpa using this)); clear hm4 hg4))
                        go_roundw
                        case rel => exact ⟨i + 1, by omega, rfl, by go_num, ⟨HW4.out.more (by omega)⟩, HB4⟩
                        case measure => simp [intOf]; omega
                      · have HJ := Kept.mk (JoinIs.conf (by rw [HL.out]; exact hn) HVA.out HNE.out (.inl (not_agree HP.out hlt2 HKV.out (by rw [HX.out]; simpa using hne))))
                        go_wp2_with (at_lookup; refine wpList_lookOkI rfl _ _ 60 rfl 3 5 Try.underlying3 Try.underlying60 (zeroB _) mb _ (knF ((segs l).take k ++ [p.s.cut i])) rfl HW.out.map (p.s.off + i) rfl w1 ?_; rw [HF.out]; simp only [Option.map_none, Option.map_some, Option.getD_none, Option.getD_some, Option.isSome_none, Option.isSome_some])
                        exact bodyPost_ret (v := .tuple #[.slice none 0 0, .int .i64 0, .bool false, .int .i64 3]) (by simp [results, Try.results25, go_sem]) rfl (joins_err HJ.out HW.out.below)
                    · obtain rfl : i = p.s.data.length := by omega
                      clear hlt2
                      go_wp2_with fail
                      go_roundw
                      case rel => exact ⟨k + 1, by omega, ⟨by rw [← HAN.out]⟩, by go_num, HLN, ⟨(HW.out.full HP.out).more (by omega)⟩⟩
                      case measure => simp [intOf]; omega

                · have HAN : Kept (true = anyL ((segs l).take (k + 1))) := ⟨by rw [take_next HP.out, anyL_snoc, ← HAL.out, HLS.out]; rfl⟩
                  go_wp2_with fail
                  obtain ⟨gb, HGB⟩ : ∃ gb, Kept (gb = wr.heap.size) := ⟨_, ⟨rfl⟩⟩
                  have HBX : Kept (Blk (wr.alloc (.cells #[.int .i64 p.s.off, .slice p.A p.s.data.length p.kap, .bool false] 24)) gb 24 #[.int .i64 p.s.off, .slice p.A p.s.data.length p.kap, .bool false]) := ⟨by rw [HGB.out]; exact Blk.new _ _ _⟩
                  rw [← HGB.out]
                  go_loopw [4, 88] (fun v4 v88 wr => ∃ i : Nat, i ≤ p.s.data.length ∧ v4 = .bool true ∧ v88 = .int .i64 i ∧ Kept (JW w lo n mb ((segs l).take k ++ [p.s.cut i]) (64 * k + i) wr) ∧ Kept (Blk wr gb 24 #[.int .i64 p.s.off, .slice p.A p.s.data.length p.kap, .bool false])) (fun _ v88 _ => p.s.data.length - (intOf v88).toNat)
                  case atStart => exact ⟨0, by omega, rfl, rfl, ⟨(HW.out.alloc _).zero p.s⟩, HBX⟩
                  case round =>
                    clear HW HBX
                    obtain ⟨i, hi', rfl, rfl, HW, HBX⟩ := hrel
                    have k0 := HBX.out.cell 0 (v := .int .i64 p.s.off) rfl
                    have hle := HW.out.le
                    by_cases hlt2 : i < p.s.data.length
                    · obtain ⟨b2, off2, e2, -, hb2, d1, z1, z2⟩ := (HM.out.below (HW.out.below.mono hB)).byte hlt2
                      rw [e2]
                      have HE2 := Kept.mk e2
                      rw [e2] at HBX
                      clear e2
                      have HHERE : Kept (knF ((segs l).take k ++ [p.s.cut i]) (p.s.off + i) = (kn ((segs l).take k) (p.s.off + i)).map (Value.int .u8)) := ⟨by unfold knF; rw [kn_here hlt2]⟩
                      obtain ⟨kv, HKV⟩ : ∃ kv, Kept (kn ((segs l).take k) (p.s.off + i) = kv) := ⟨_, ⟨rfl⟩⟩
                      have HF : Kept (knF ((segs l).take k ++ [p.s.cut i]) (p.s.off + i) = kv.map (Value.int .u8)) := ⟨by rw [HHERE.out, HKV.out]⟩
                      obtain ⟨x, HX⟩ : ∃ x, Kept (p.s.data.getD i 0 = x) := ⟨_, ⟨rfl⟩⟩
                      rw [HX.out] at d1 z1 z2
                      have hcase : kv = none ∨ kv = some x ∨ ∃ y, kv = some y ∧ (y != x) = true := by
                        cases kv with
                        | none => exact .inl rfl
                        | some y => by_cases h : y = x; exact .inr (.inl (by rw [h])); exact .inr (.inr ⟨y, rfl, by simpa using h⟩)
                      have w1 : (Lit.int .i64 (p.s.off + i)).wf = true := WalkArith.wf_i64 (by omega)
                      rcases hcase with rfl | rfl | ⟨y, rfl, hne⟩
                      · go_wp2_with (first | (at_lookup; refine wpList_lookOkI rfl _ _ 60 rfl 3 5 Try.underlying3 Try.underlying60 (zeroB _) mb _ (knF ((segs l).take k ++ [p.s.cut i])) rfl HW.out.map (p.s.off + i) rfl w1 ?_; rw [HF.out]; simp only [Option.map_none, Option.map_some, Option.getD_none, Option.getD_some, Option.isSome_none, Option.isSome_some]) | (at_mapUpdate; refine wpList_setI rfl _ _ _ 60 rfl 3 5 Try.underlying3 Try.underlying60 mb _ (knF ((segs l).take k ++ [p.s.cut i])) rfl HW.out.map (by unfold maxLen; omega) (p.s.off + i) (.int .u8 x) rfl rfl w1 ?_; intro w4 hm4 hg4; have HW4 := Kept.mk (HW.out.next hlt2 (by rw [HKV.out, HX.out]; exact .inl rfl) q1 q2 (by rw [HX.out]; exact hm4) hg4 HMB.out); have HB4 := Kept.mk (HBX.out.grown hg4 (by have := MapAt.ne HW.out.map HBX.out; simpa using this)); clear hm4 hg4))
                        go_roundw
                        case rel => exact ⟨i + 1, by omega, rfl, by go_num, ⟨HW4.out.more (by omega)⟩, HB4⟩
                        case measure => simp [intOf]; omega
                      · go_wp2_with (first | (at_lookup; refine wpList_lookOkI rfl _ _ 60 rfl 3 5 Try.underlying3 Try.underlying60 (zeroB _) mb _ (knF ((segs l).take k ++ [p.s.cut i])) rfl HW.out.map (p.s.off + i) rfl w1 ?_; rw [HF.out]; simp only [Option.map_none, Option.map_some, Option.getD_none, Option.getD_some, Option.isSome_none, Option.isSome_some]) | (at_mapUpdate; refine wpList_setI rfl _ _ _ 60 rfl 3 5 Try.underlying3 Try.underlying60 mb _ (knF ((segs l).take k ++ [p.s.cut i])) rfl HW.out.map (by unfold maxLen; omega) (p.s.off + i) (.int .u8 x) rfl rfl w1 ?_; intro w4 hm4 hg4; have HW4 := Kept.mk (HW.out.next hlt2 (by rw [HKV.out, HX.out]; exact .inr rfl) q1 q2 (by rw [HX.out]; exact hm4) hg4 HMB.out); have HB4 := Kept.mk (HBX.out.grown hg4 (by have := MapAt.ne HW.out.map HBX.out; simpa using this)); clear hm4 hg4))
                        go_roundw
                        case rel => exact ⟨i + 1, by omega, rfl, by go_num, ⟨HW4.out.more (by omega)⟩, HB4⟩
                        case measure => simp [intOf]; omega
                      · have HJ := Kept.mk (JoinIs.conf (by rw [HL.out]; exact hn) HVA.out HNE.out (.inl (not_agree HP.out hlt2 HKV.out (by rw [HX.out]; simpa using hne))))
                        go_wp2_with (at_lookup; refine wpList_lookOkI rfl _ _ 60 rfl 3 5 Try.underlying3 Try.underlying60 (zeroB _) mb _ (knF ((segs l).take k ++ [p.s.cut i])) rfl HW.out.map (p.s.off + i) rfl w1 ?_; rw [HF.out]; simp only [Option.map_none, Option.map_some, Option.getD_none, Option.getD_some, Option.isSome_none, Option.isSome_some])
                        exact bodyPost_ret (v := .tuple #[.slice none 0 0, .int .i64 0, .bool false, .int .i64 3]) (by simp [results, Try.results25, go_sem]) rfl (joins_err HJ.out HW.out.below)
                    · obtain rfl : i = p.s.data.length := by omega
                      clear hlt2
                      go_wp2_with fail
                      go_roundw
                      case rel => exact ⟨k + 1, by omega, ⟨by rw [← HAN.out]⟩, by go_num, HLN, ⟨(HW.out.full HP.out).more (by omega)⟩⟩
                      case measure => simp [intOf]; omega

              · rw [hls] at c3
                have HLS := Kept.mk hls
                clear hls
                by_cases hf : p.s.off + p.s.data.length < lo + n
                · have HJ := Kept.mk (JoinIs.conf (by rw [HL.out]; exact hn) HVA.out HNE.out (.inr ⟨_, List.mem_of_getElem? HP.out, HLS.out, by
                    obtain ⟨t, ht, e⟩ := HHIGH.out.1
                    exact ⟨t, ht, by rw [e]; exact hf⟩⟩))
                  go_wp2_with fail
                  exact bodyPost_ret (v := .tuple #[.slice none 0 0, .int .i64 0, .bool false, .int .i64 3]) (by simp [results, Try.results25, go_sem]) rfl (joins_err HJ.out (HD.out.alloc HZ _))
                · have HLN := Kept.mk (last_next HLB.out HP.out (fun _ => by unfold Seg.fin; omega))
                  have hf' : lo + n ≤ p.s.off + p.s.data.length := by omega
                  clear hf
                  cases bl
                  · have HAN : Kept (true = anyL ((segs l).take (k + 1))) := ⟨by rw [take_next HP.out, anyL_snoc, ← HAL.out, HLS.out]; rfl⟩
                    go_wp2_with fail
                    obtain ⟨gb, HGB⟩ : ∃ gb, Kept (gb = wr.heap.size) := ⟨_, ⟨rfl⟩⟩
                    have HBX : Kept (Blk (wr.alloc (.cells #[.int .i64 p.s.off, .slice p.A p.s.data.length p.kap, .bool true] 24)) gb 24 #[.int .i64 p.s.off, .slice p.A p.s.data.length p.kap, .bool true]) := ⟨by rw [HGB.out]; exact Blk.new _ _ _⟩
                    rw [← HGB.out]
                    go_loopw [4, 88] (fun v4 v88 wr => ∃ i : Nat, i ≤ p.s.data.length ∧ v4 = .bool true ∧ v88 = .int .i64 i ∧ Kept (JW w lo n mb ((segs l).take k ++ [p.s.cut i]) (64 * k + i) wr) ∧ Kept (Blk wr gb 24 #[.int .i64 p.s.off, .slice p.A p.s.data.length p.kap, .bool true])) (fun _ v88 _ => p.s.data.length - (intOf v88).toNat)
                    case atStart => exact ⟨0, by omega, rfl, rfl, ⟨(HW.out.alloc _).zero p.s⟩, HBX⟩
                    case round =>
                      clear HW HBX
                      obtain ⟨i, hi', rfl, rfl, HW, HBX⟩ := hrel
                      have k0 := HBX.out.cell 0 (v := .int .i64 p.s.off) rfl
                      have hle := HW.out.le
                      by_cases hlt2 : i < p.s.data.length
                      · obtain ⟨b2, off2, e2, -, hb2, d1, z1, z2⟩ := (HM.out.below (HW.out.below.mono hB)).byte hlt2
                        rw [e2]
                        have HE2 := Kept.mk e2
                        rw [e2] at HBX
                        clear e2
                        have HHERE : Kept (knF ((segs l).take k ++ [p.s.cut i]) (p.s.off + i) = (kn ((segs l).take k) (p.s.off + i)).map (Value.int .u8)) := ⟨by unfold knF; rw [kn_here hlt2]⟩
                        obtain ⟨kv, HKV⟩ : ∃ kv, Kept (kn ((segs l).take k) (p.s.off + i) = kv) := ⟨_, ⟨rfl⟩⟩
                        have HF : Kept (knF ((segs l).take k ++ [p.s.cut i]) (p.s.off + i) = kv.map (Value.int .u8)) := ⟨by rw [HHERE.out, HKV.out]⟩
                        obtain ⟨x, HX⟩ : ∃ x, Kept (p.s.data.getD i 0 = x) := ⟨_, ⟨rfl⟩⟩
                        rw [HX.out] at d1 z1 z2
                        have hcase : kv = none ∨ kv = some x ∨ ∃ y, kv = some y ∧ (y != x) = true := by
                          cases kv with
                          | none => exact .inl rfl
                          | some y => by_cases h : y = x; exact .inr (.inl (by rw [h])); exact .inr (.inr ⟨y, rfl, by simpa using h⟩)
                        have w1 : (Lit.int .i64 (p.s.off + i)).wf = true := WalkArith.wf_i64 (by omega)
                        rcases hcase with rfl | rfl | ⟨y, rfl, hne⟩
                        · go_wp2_with (first | (at_lookup; refine wpList_lookOkI rfl _ _ 60 rfl 3 5 Try.underlying3 Try.underlying60 (zeroB _) mb _ (knF ((segs l).take k ++ [p.s.cut i])) rfl HW.out.map (p.s.off + i) rfl w1 ?_; rw [HF.out]; simp only [Option.map_none, Option.map_some, Option.getD_none, Option.getD_some, Option.isSome_none, Option.isSome_some]) | (at_mapUpdate; refine wpList_setI rfl _ _ _ 60 rfl 3 5 Try.underlying3 Try.underlying60 mb _ (knF ((segs l).take k ++ [p.s.cut i])) rfl HW.out.map (by unfold maxLen; omega) (p.s.off + i) (.int .u8 x) rfl rfl w1 ?_; intro w4 hm4 hg4; have HW4 := Kept.mk (HW.out.next hlt2 (by rw [HKV.out, HX.out]; exact .inl rfl) q1 q2 (by rw [HX.out]; exact hm4) hg4 HMB.out); have HB4 := Kept.mk (HBX.out.grown hg4 (by have := MapAt.ne HW.out.map HBX.out; simpa using this)); clear hm4 hg4))
                          go_roundw
                          case rel => exact ⟨i + 1, by omega, rfl, by go_num, ⟨HW4.out.more (by omega)⟩, HB4⟩
                          case measure => simp [intOf]; omega
                        · go_wp2_with (first | (at_lookup; refine wpList_lookOkI rfl _ _ 60 rfl 3 5 Try.underlying3 Try.underlying60 (zeroB _) mb _ (knF ((segs l).take k ++ [p.s.cut i])) rfl HW.out.map (p.s.off + i) rfl w1 ?_; rw [HF.out]; simp only [Option.map_none, Option.map_some, Option.getD_none, Option.getD_some, Option.isSome_none, Option.isSome_some]) | (at_mapUpdate; refine wpList_setI rfl _ _ _ 60 rfl 3 5 Try.underlying3 Try.underlying60 mb _ (knF ((segs l).take k ++ [p.s.cut i])) rfl HW.out.map (by unfold maxLen; omega) (p.s.off + i) (.int .u8 x) rfl rfl w1 ?_; intro w4 hm4 hg4; have HW4 := Kept.mk (HW.out.next hlt2 (by rw [HKV.out, HX.out]; exact .inr rfl) q1 q2 (by rw [HX.out]; exact hm4) hg4 HMB.out); have HB4 := Kept.mk (HBX.out.grown hg4 (by have := MapAt.ne HW.out.map HBX.out; simpa using this)); clear hm4 hg4))
                          go_roundw
                          case rel => exact ⟨i + 1, by omega, rfl, by go_num, ⟨HW4.out.more (by omega)⟩, HB4⟩
                          case measure => simp [intOf]; omega
                        · have HJ := Kept.mk (JoinIs.conf (by rw [HL.out]; exact hn) HVA.out HNE.out (.inl (not_agree HP.out hlt2 HKV.out (by rw [HX.out]; simpa using hne))))
                          go_wp2_with (at_lookup; refine wpList_lookOkI rfl _ _ 60 rfl 3 5 Try.underlying3 Try.underlying60 (zeroB _) mb _ (knF ((segs l).take k ++ [p.s.cut i])) rfl HW.out.map (p.s.off + i) rfl w1 ?_; rw [HF.out]; simp only [Option.map_none, Option.map_some, Option.getD_none, Option.getD_some, Option.isSome_none, Option.isSome_some])
                          exact bodyPost_ret (v := .tuple #[.slice none 0 0, .int .i64 0, .bool false, .int .i64 3]) (by simp [results, Try.results25, go_sem]) rfl (joins_err HJ.out HW.out.below)
                      · obtain rfl : i = p.s.data.length := by omega
                        clear hlt2
                        go_wp2_with fail
                        go_roundw
                        case rel => exact ⟨k + 1, by omega, ⟨by rw [← HAN.out]⟩, by go_num, HLN, ⟨(HW.out.full HP.out).more (by omega)⟩⟩
                        case measure => simp [intOf]; omega

                  · have HAN : Kept (true = anyL ((segs l).take (k + 1))) := ⟨by rw [take_next HP.out, anyL_snoc, ← HAL.out, HLS.out]; rfl⟩
                    go_wp2_with fail
                    obtain ⟨gb, HGB⟩ : ∃ gb, Kept (gb = wr.heap.size) := ⟨_, ⟨rfl⟩⟩
                    have HBX : Kept (Blk (wr.alloc (.cells #[.int .i64 p.s.off, .slice p.A p.s.data.length p.kap, .bool true] 24)) gb 24 #[.int .i64 p.s.off, .slice p.A p.s.data.length p.kap, .bool true]) := ⟨by rw [HGB.out]; exact Blk.new _ _ _⟩
                    rw [← HGB.out]
                    go_loopw [4, 88] (fun v4 v88 wr => ∃ i : Nat, i ≤ p.s.data.length ∧ v4 = .bool true ∧ v88 = .int .i64 i ∧ Kept (JW w lo n mb ((segs l).take k ++ [p.s.cut i]) (64 * k + i) wr) ∧ Kept (Blk wr gb 24 #[.int .i64 p.s.off, .slice p.A p.s.data.length p.kap, .bool true])) (fun _ v88 _ => p.s.data.length - (intOf v88).toNat)
                    case atStart => exact ⟨0, by omega, rfl, rfl, ⟨(HW.out.alloc _).zero p.s⟩, HBX⟩
                    case round =>
                      clear HW HBX
                      obtain ⟨i, hi', rfl, rfl, HW, HBX⟩ := hrel
                      have k0 := HBX.out.cell 0 (v := .int .i64 p.s.off) rfl
                      have hle := HW.out.le
                      by_cases hlt2 : i < p.s.data.length
                      · obtain ⟨b2, off2, e2, -, hb2, d1, z1, z2⟩ := (HM.out.below (HW.out.below.mono hB)).byte hlt2
                        rw [e2]
                        have HE2 := Kept.mk e2
                        rw [e2] at HBX
                        clear e2
                        have HHERE : Kept (knF ((segs l).take k ++ [p.s.cut i]) (p.s.off + i) = (kn ((segs l).take k) (p.s.off + i)).map (Value.int .u8)) := ⟨by unfold knF; rw [kn_here hlt2]⟩
                        obtain ⟨kv, HKV⟩ : ∃ kv, Kept (kn ((segs l).take k) (p.s.off + i) = kv) := ⟨_, ⟨rfl⟩⟩
                        have HF : Kept (knF ((segs l).take k ++ [p.s.cut i]) (p.s.off + i) = kv.map (Value.int .u8)) := ⟨by rw [HHERE.out, HKV.out]⟩
                        obtain ⟨x, HX⟩ : ∃ x, Kept (p.s.data.getD i 0 = x) := ⟨_, ⟨rfl⟩⟩
                        rw [HX.out] at d1 z1 z2
                        have hcase : kv = none ∨ kv = some x ∨ ∃ y, kv = some y ∧ (y != x) = true := by
                          cases kv with
                          | none => exact .inl rfl
                          | some y => by_cases h : y = x; exact .inr (.inl (by rw [h])); exact .inr (.inr ⟨y, rfl, by simpa using h⟩)
                        have w1 : (Lit.int .i64 (p.s.off + i)).wf = true := WalkArith.wf_i64 (by omega)
                        rcases hcase with rfl | rfl | ⟨y, rfl, hne⟩
                        · go_wp2_with (first | (at_lookup; refine wpList_lookOkI rfl _ _ 60 rfl 3 5 Try.underlying3 Try.underlying60 (zeroB _) mb _ (knF ((segs l).take k ++ [p.s.cut i])) rfl HW.out.map (p.s.off + i) rfl w1 ?_; rw [HF.out]; simp only [Option.map_none, Option.map_some, Option.getD_none, Option.getD_some, Option.isSome_none, Option.isSome_some]) | (at_mapUpdate; refine wpList_setI rfl _ _ _ 60 rfl 3 5 Try.underlying3 Try.underlying60 mb _ (knF ((segs l).take k ++ [p.s.cut i])) rfl HW.out.map (by unfold maxLen; omega) (p.s.off + i) (.int .u8 x) rfl rfl w1 ?_; intro w4 hm4 hg4; have HW4 := Kept.mk (HW.out.next hlt2 (by rw [HKV.out, HX.out]; exact .inl rfl) q1 q2 (by rw [HX.out]; exact hm4) hg4 HMB.out); have HB4 := Kept.mk (HBX.out.grown hg4 (by have := MapAt.ne HW.out.map HBX.out; simpa using this)); clear hm4 hg4))
                          go_roundw
                          case rel => exact ⟨i + 1, by omega, rfl, by go_num, ⟨HW4.out.more (by omega)⟩, HB4⟩
                          case measure => simp [intOf]; omega
                        · go_wp2_with (first | (at_lookup; refine wpList_lookOkI rfl _ _ 60 rfl 3 5 Try.underlying3 Try.underlying60 (zeroB _) mb _ (knF ((segs l).take k ++ [p.s.cut i])) rfl HW.out.map (p.s.off + i) rfl w1 ?_; rw [HF.out]; simp only [Option.map_none, Option.map_some, Option.getD_none, Option.getD_some, Option.isSome_none, Option.isSome_some]) | (at_mapUpdate; refine wpList_setI rfl _ _ _ 60 rfl 3 5 Try.underlying3 Try.underlying60 mb _ (knF ((segs l).take k ++ [p.s.cut i])) rfl HW.out.map (by unfold maxLen; omega) (p.s.off + i) (.int .u8 x) rfl rfl w1 ?_; intro w4 hm4 hg4; have HW4 := Kept.mk (HW.out.next hlt2 (by rw [HKV.out, HX.out]; exact .inr rfl) q1 q2 (by rw [HX.out]; exact hm4) hg4 HMB.out); have HB4 := Kept.mk (HBX.out.grown hg4 (by have := MapAt.ne HW.out.map HBX.out; simpa using this)); clear hm4 hg4))
                          go_roundw
                          case rel => exact ⟨i + 1, by omega, rfl, by go_num, ⟨HW4.out.more (by omega)⟩, HB4⟩
                          case measure => simp [intOf]; omega
                        · have HJ := Kept.mk (JoinIs.conf (by rw [HL.out]; exact hn) HVA.out HNE.out (.inl (not_agree HP.out hlt2 HKV.out (by rw [HX.out]; simpa using hne))))
                          go_wp2_with (at_lookup; refine wpList_lookOkI rfl _ _ 60 rfl 3 5 Try.underlying3 Try.underlying60 (zeroB _) mb _ (knF ((segs l).take k ++ [p.s.cut i])) rfl HW.out.map (p.s.off + i) rfl w1 ?_; rw [HF.out]; simp only [Option.map_none, Option.map_some, Option.getD_none, Option.getD_some, Option.isSome_none, Option.isSome_some])
                          exact bodyPost_ret (v := .tuple #[.slice none 0 0, .int .i64 0, .bool false, .int .i64 3]) (by simp [results, Try.results25, go_sem]) rfl (joins_err HJ.out HW.out.below)
                      · obtain rfl : i = p.s.data.length := by omega
                        clear hlt2
                        go_wp2_with fail
                        go_roundw
                        case rel => exact ⟨k + 1, by omega, ⟨by rw [← HAN.out]⟩, by go_num, HLN, ⟨(HW.out.full HP.out).more (by omega)⟩⟩
                        case measure => simp [intOf]; omega

            · obtain rfl : k = l.length := by omega
              clear hlt
              have HNC : Kept (¬ Conf (segs l)) := ⟨fun hc => by
                have ht : (segs l).take l.length = segs l := List.take_of_length_le (by rw [HL.out]; exact Nat.le_refl _)
                have ha := HW.out.agree
                have hb := HLB.out
                rw [ht] at ha hb
                rcases hc with hc | ⟨s, hs, hl, t, ht, hlt⟩
                · exact hc ha
                · have := hb s hs hl
                  have := HHIGH.out.2 t ht
                  omega⟩
              have HTL : Kept ((segs l).take l.length = segs l) := ⟨List.take_of_length_le (by rw [HL.out]; exact Nat.le_refl _)⟩
              rw [HTL.out] at HAL HW
              obtain ⟨cn, HCN⟩ : ∃ cn, Kept (cn = cnt (kn (segs l)) lo n) := ⟨_, ⟨rfl⟩⟩
              have hcn1 : cn ≤ n := by rw [HCN.out]; exact cnt_le _ _ _
              have hcn2 : cn ≤ 64000 := by rw [HCN.out]; exact Nat.le_trans HW.out.le (by omega)
              have HMP : Kept (MapI Try.prog 3 wr mb cn (knF (segs l))) := ⟨by rw [HCN.out]; exact HW.out.map⟩
              clear HW HLB
              have HZ := HD.out.size
              by_cases hcnt : cn < n
              · have HG : Kept (Gap (segs l) lo (lo + n)) := ⟨Classical.byContradiction fun hg => by
                  have h1 := (cnt_full (kn (segs l)) lo n).2 fun j hj => by
                    cases hk : kn (segs l) (lo + j) with
                    | none => exact absurd ⟨lo + j, by omega, by omega, hk⟩ hg
                    | some x => rfl
                  rw [← HCN.out] at h1
                  omega⟩
                have HJ := Kept.mk (JoinIs.gap (by rw [HL.out]; exact hn) HVA.out HNE.out HNC.out HLOW.out HHIGH.out HG.out)
                have hcnt' : (cn : Int) < lo + n - lo := by omega
                go_wp2_with (at_len; refine wpList_mapLen rfl _ _ rfl 3 5 Try.underlying60 mb cn (intF (knF (segs l))) rfl HMP.out ?_)
                exact bodyPost_ret (v := .tuple #[.slice none 0 0, .int .i64 0, .bool false, .int .i64 4]) (by simp [results, Try.results25, go_sem]) rfl (joins_err HJ.out HD.out)
              · have HFULL : Kept (∀ j, j < n → (kn (segs l) (lo + j)).isSome = true) := ⟨(cnt_full (kn (segs l)) lo n).1 (by rw [← HCN.out]; omega)⟩
                obtain rfl : n = cn := by omega
                have hcnt' : ¬ (n : Int) < lo + n - lo := by omega
                clear hcnt
                go_wp2_with (first | (at_len; refine wpList_mapLen rfl _ _ rfl 3 5 Try.underlying60 mb n (intF (knF (segs l))) rfl HMP.out ?_) | (at_make; refine wpList_make_full _ rfl _ _ 22 rfl w.heap.size 5 ii _ 1 Try.underlying22 hii hz0 hz1 .i64 .i64 (lo + n - lo) (lo + n - lo) n rfl rfl (by omega) (by omega) (by rw [hz2]; omega) (by unfold maxLen; omega) (by omega) ?_; intro w5 ho5 hg5))
                obtain ⟨gr, HGR⟩ : ∃ gr, Kept (gr = wr.heap.size) := ⟨_, ⟨rfl⟩⟩
                rw [← HGR.out] at ho5 ⊢
                have hgr : w.heap.size ≤ gr := by rw [HGR.out]; exact HZ
                have HW5 : Kept (DW w lo n gr ((segs l).take 0) w5) := ⟨⟨dw_made ho5, HD.out.grown hg5 HZ (fun g h => by cases h)⟩⟩
                have HAG : Kept (Agree (segs l)) := ⟨Classical.byContradiction fun h => HNC.out (.inl h)⟩
                have HBA : Kept (Bytes (dat (segs l) lo n)) := ⟨dat_bytes fun s hs => by
                  simp only [segs, List.mem_map] at hs
                  obtain ⟨p, hp, rfl⟩ := hs
                  exact (HS.out.seg p hp).by_⟩
                clear ho5 hg5 HMP HD hcnt' HZ
                go_loopw [128] (fun v128 wr => ∃ k : Nat, k ≤ l.length ∧ v128 = .int .i64 k ∧ Kept (DW w lo n gr ((segs l).take k) wr)) (fun v128 _ => l.length - (intOf v128).toNat)
                case atStart => exact ⟨0, by omega, rfl, HW5⟩
                case round =>
                  clear HW5
                  obtain ⟨k, hk, rfl, HW⟩ := hrel
                  have HD : Kept (Below w.heap.size w wr) := ⟨HW.out.below⟩
                  by_cases hlt : k < l.length
                  · obtain ⟨p, b, off, hp, e, -, hb, c1, c2, c3, hsg⟩ := (HS.out.below (HD.out.mono hB)).at_ hlt
                    obtain ⟨rfl, rfl⟩ : b0 = b ∧ off0 = off := by injection e with e; injection e with e1 e2; exact ⟨e1, e2⟩
                    have HP := Kept.mk (segs_get hp)
                    have HM := Kept.mk (HS.out.seg p (List.mem_of_getElem? hp))
                    obtain ⟨x1, x2, x3⟩ := valid_iff.1 (HVA.out _ (List.mem_of_getElem? HP.out))
                    have x2' : (p.s.data.length : Int) ≤ 64 := by omega
                    have x4 : (0 : Int) ≤ p.s.data.length := by omega
                    clear hp hsg e
                    have q1 : lo ≤ p.s.off := HLOW.out.2 _ (List.mem_of_getElem? HP.out)
                    have q2 : p.s.off + p.s.data.length ≤ lo + n := HHIGH.out.2 _ (List.mem_of_getElem? HP.out)
                    have HZ := HD.out.size
                    obtain ⟨d, hd⟩ : ∃ d : Nat, p.s.off = lo + d := ⟨(p.s.off - lo).toNat, by omega⟩
                    have HDD := Kept.mk hd
                    have HN := Kept.mk (dat_next (lo := lo) (n := n) HAG.out HP.out q1 q2)
                    rw [hd] at c1
                    have hd2 : d + p.s.data.length ≤ n := by omega
                    have q3 : (d : Int) ≤ n := by omega
                    have q4 : (0 : Int) ≤ d := by omega
                    clear hd x1 x3 q1 q2
                    have HE1 : Kept (IntKind.i64.wrap (lo + (d : Int) - lo) = d) := ⟨by rw [IntWalk.i64_in _ (by omega)]; omega⟩
                    obtain ⟨BX, hBX⟩ : ∃ BX : Obj, BX = .cells #[.int .i64 (lo + d), .slice p.A p.s.data.length p.kap, .bool p.s.last] 24 := ⟨_, rfl⟩
                    have HROW : Kept ((wr.alloc BX).heap[gr]? = some (.cells (bv (dat ((segs l).take k) lo n)).toArray 5 (0, 0))) := ⟨(Below.heap_alloc wr BX gr (lt_of_some HW.out.row)).trans HW.out.row⟩
                    have HBB : Kept (Below w.heap.size w (wr.alloc BX)) := ⟨HD.out.alloc HZ _⟩
                    have HRD : Kept (0 < (bv p.s.data).length → ∃ ad, p.A = some ad ∧ ∀ j v, (bv p.s.data)[j]? = some v → (wr.alloc BX).cell? (ad.add j) = some v) := ⟨fun h => by
                      obtain ⟨ad, ha, _, hc⟩ := ((HM.out.rd.below (HBB.out.mono hB)).2 (by simpa [bv_len] using h))
                      exact ⟨ad, ha, hc⟩⟩
                    have s1 : Kept ((bv p.s.data).length = Nat.min p.s.data.length (n - d)) := ⟨by rw [bv_len]; exact (Nat.min_eq_left (by omega)).symm⟩
                    have s3 : Kept (d + (bv p.s.data).length ≤ (bv (dat ((segs l).take k) lo n)).length) := ⟨by rw [bv_len, bv_len, dat_len]; omega⟩
                    have s4 : Kept (gr < (wr.alloc BX).heap.size) := ⟨by have := lt_of_some HROW.out; exact this⟩
                    subst hBX
                    by_cases hdn : d = n
                    · have HS0 : Kept (p.s.data.length = 0) := ⟨by omega⟩
                      have hd3 : n ≤ d := by omega
                      clear hdn
                      go_wp2_with fail
                      have e1 := HE1.out
                      go_region_law (refine step_copy_splice rfl (.tmp 137) (.tmp 139) 22 22 rfl 5 Try.underlying22 (by kernel_rfl) (some ⟨gr, 0, none⟩) p.A (n - d) (n - d) p.s.data.length p.kap (by simp [Act.eval, Act.put]; omega) (by simp [Act.eval, Act.put]) gr d _ 5 HROW.out (bv p.s.data) s1.out (fun h => absurd h (by rw [bv_len, HS0.out]; omega)) s3.out (bv_one _) w.heap.size w HBB.out.drew hgr ?_; intro w4 hg4 hb4)
                      all_goals
                        clear e1
                        have HW4 : Kept (DW w lo n gr ((segs l).take (k + 1)) w4) := ⟨by rw [take_next HP.out]; exact ⟨by rw [HN.out, HDD.out]; exact splice_dat hg4.out, hb4⟩⟩
                        clear hg4 hb4
                        go_wp2_with fail
                        go_roundw
                        case rel => exact ⟨k + 1, by omega, by go_num, HW4⟩
                        case measure => simp [intOf]; omega
                    · have hdn' : d < n := by omega
                      have hdn2 : (d : Int) < n := by omega
                      clear hdn
                      go_wp2_with fail
                      have e1 := HE1.out
                      go_region_law (refine step_copy_splice rfl (.tmp 137) (.tmp 139) 22 22 rfl 5 Try.underlying22 (by kernel_rfl) (some ⟨gr, d, none⟩) p.A (n - d) (n - d) p.s.data.length p.kap (by simp [Act.eval, Act.put]; omega) (by simp [Act.eval, Act.put]) gr d _ 5 HROW.out (bv p.s.data) s1.out (fun h => ⟨rfl, HRD.out h⟩) s3.out (bv_one _) w.heap.size w HBB.out.drew hgr ?_; intro w4 hg4 hb4)
                      all_goals
                        clear e1
                        have HW4 : Kept (DW w lo n gr ((segs l).take (k + 1)) w4) := ⟨by rw [take_next HP.out]; exact ⟨by rw [HN.out, HDD.out]; exact splice_dat hg4.out, hb4⟩⟩
                        clear hg4 hb4
                        go_wp2_with fail
                        go_roundw
                        case rel => exact ⟨k + 1, by omega, by go_num, HW4⟩
                        case measure => simp [intOf]; omega
                  · obtain rfl : k = l.length := by omega
                    clear hlt
                    rw [HTL.out] at HW
                    have HJ := Kept.mk (JoinIs.ok (by rw [HL.out]; exact hn) HVA.out HNE.out HNC.out HLOW.out HHIGH.out (data := dat (segs l) lo n) (by rw [dat_len]; omega) (fun i hi => by
                      rw [dat_len] at hi
                      rw [dat_get hi]
                      have := HFULL.out i hi
                      cases hk : kn (segs l) (lo + i) with
                      | none => rw [hk] at this; cases this
                      | some x => rfl))
                    go_wp2_with fail
                    exact bodyPost_ret (v := .tuple #[.slice (some ⟨gr, 0, none⟩) n n, .int .i64 lo, .bool bl, .int .i64 0]) (by simp [results, Try.results25, go_sem]) rfl ⟨_, _, HJ.out, HBA.out, by rw [HAL.out], dw_own HW.out hgr (by omega), HD.out⟩
theorem join_c (l : List PSeg) (A : Option Addr) (kap : Nat) (w : World) (B : Nat) (h : SegsAt w B A l) (hB : B ≤ w.heap.size) (hn : l.length ≤ 1000000) :
    Calls Try.prog 25 #[.slice A l.length kap] w (Joins w (segs l)) := by
  by_cases h1 : 1000 < l.length
  · exact join_full l A kap w h1 hn
  · by_cases h0 : 0 < l.length
    · exact join_some l A kap w B h hB (by omega) h0
    · obtain rfl : l = [] := List.eq_nil_of_length_eq_zero (by omega)
      exact join_none A kap w
end Go.Proofs.Ytdhajibegkkeiaa
