/- Segment: the walk of Split (printed by gen_split.py). -/
import Derived.Test.YtdhajibegkkeiaaCut
namespace Go.Proofs.Ytdhajibegkkeiaa
set_option linter.unusedVariables false
set_option linter.unusedSimpArgs false
open Go.RowKit
def pieces (n m : Nat) : Nat := (n + m - 1) / m
def nP (n m : Nat) (last : Bool) : Nat := if pieces n m = 0 ∧ last = true then 1 else pieces n m
def segI (d : List Int) (off : Int) (m : Nat) (last : Bool) (n i : Nat) : Seg := ⟨off + (i * m : Nat), (d.take (min ((i + 1) * m) d.length)).drop (i * m), last && decide (i + 1 = n)⟩
def splitK (d : List Int) (off : Int) (m : Nat) (last : Bool) (n k : Nat) : List Seg := (List.range k).map (segI d off m last n)
theorem splitK_len (d : List Int) (off : Int) (m : Nat) (last : Bool) (n k : Nat) : (splitK d off m last n k).length = k := by simp [splitK]
theorem splitK_next (d : List Int) (off : Int) (m : Nat) (last : Bool) (n k : Nat) : splitK d off m last n (k + 1) = splitK d off m last n k ++ [segI d off m last n k] := by simp [splitK, List.range_succ]
def badB (n : Nat) (off most : Int) : Bool := decide (most < 1) || decide (64 < most) || decide (off < 0) || decide (1099511627776 - (n : Int) < off)
def splitE (n : Nat) (off most : Int) (last : Bool) : Int := if badB n off most = true then 2 else if 1000 < nP n most.toNat last then 5 else 0
def splitP (d : List Int) (off most : Int) (last : Bool) : List Seg := if splitE d.length off most last = 0 then splitK d off most.toNat last (nP d.length most.toNat last) (nP d.length most.toNat last) else []
/-- A list of segments of the call's own. -/
structure OwnL (w : World) (B : Nat) (v : Value) (L : List Seg) (ps : List PSeg) : Prop where
  eq : segs ps = L
  row : w.ownsRow B 24 3 v ps.length (scells ps)
  seg : ∀ p ∈ ps, OwnS w B p
theorem OwnL.new_ {w w' : World} {B : Nat} {v : Value} {L : List Seg} {ps : List PSeg} (h : OwnL w B v L ps) (hb : Below w.heap.size w w') : OwnL w' B v L ps := ⟨h.eq, own_new h.row hb, fun p hp => ⟨own_new (h.seg p hp).1 hb, (h.seg p hp).2⟩⟩
theorem OwnL.at_ {w : World} {B : Nat} {A : Option Addr} {n kap : Nat} {L : List Seg} {ps : List PSeg} (h : OwnL w B (.slice A n kap) L ps) : n = ps.length ∧ SegsAt w w.heap.size A ps := by
  obtain ⟨A', k', e⟩ := own_slice h.row
  injection e with e1 e2 e3
  subst e1; subst e2; subst e3
  exact ⟨rfl, Reads.of_own h.row, fun p hp => (h.seg p hp).at_⟩
theorem own_grown {w w' : World} {B B2 sz sz2 n n2 : Nat} {e e2 : TypeId} {v v2 : Value} {xs xs2 : List Value} (h : w.ownsRow B e sz v n xs) (hr : w.ownsRow B2 e2 sz2 v2 n2 xs2) (hne : e ≠ e2) (hg : w.grownBy w' v2.ownBlock) : w'.ownsRow B e sz v n xs := by
  refine own_move h fun g hgv => hg.block g (h.lt g hgv).2 fun e3 => ?_
  rcases h.2 with ⟨rfl, _⟩ | ⟨g1, c1, u1, rfl, _, h3, _⟩
  · cases hgv
  · rcases hr.2 with ⟨rfl, _⟩ | ⟨g2, c2, u2, rfl, _, h4, _⟩
    · cases e3
    · simp only [Value.ownBlock, Option.some.injEq] at hgv e3
      subst hgv; subst e3
      rw [h3] at h4
      injection h4 with h4
      injection h4 with _ h4
      exact hne h4
def Splits (w : World) (d : List Int) (off most : Int) (last : Bool) (e : Ending) (w' : World) : Prop :=
  ∃ v ps, e = .returned (.tuple #[v, .int .i64 (splitE d.length off most last)]) ∧ OwnL w' w.heap.size v (splitP d off most last) ps ∧ Below w.heap.size w w'
theorem splitP0 {d : List Int} {off : Int} {m n : Nat} {last : Bool} (h : splitE d.length off m last = 0) (hn : n = nP d.length m last) : splitP d off m last = splitK d off m last n n := by
  unfold splitP; rw [if_pos h, hn]; rfl
theorem splits_none {w w' : World} {d : List Int} {off most : Int} {last : Bool} {x : Int} (h : splitE d.length off most last = x) (hx : x ≠ 0) (hb : Below w.heap.size w w') : Splits w d off most last (.returned (.tuple #[.slice none 0 0, .int .i64 x])) w' :=
  ⟨_, [], by rw [h], ⟨by unfold splitP; rw [h, if_neg hx]; rfl, World.ownsRow_nil _ _ _ _, fun p hp => by simp at hp⟩, hb⟩
theorem run_mid {A A' : Option Addr} {n kap i j : Nat} (w : World) (hi : i ≤ j) (hj : j ≤ kap) (hA : A' = if kap = i then A else A.map fun x => x.add i) :
    (Instr.slice 22 (.slice A n kap) (some (.int .i64 i)) (some (.int .i64 j)) none).run Try.prog w = .ok (.slice A' (j - i) (kap - i)) w := by
  rw [run_slice_lh w 22 A n kap (show Try.prog.underlying 22 = some (.slice (Try.prog.elem 22)) by kernel_rfl) .i64 .i64 i j (by omega) (by omega) (by omega), hA]
  have hs : (sizeOf (Try.prog.elem 22)).run Try.prog w = .ok 1 w := by kernel_rfl
  simp [hs, Result.andThen, sliced]
theorem run_mid2 {A A' : Option Addr} {n kap i j : Nat} (w : World) (hi : i ≤ j) (hj : j ≤ kap) (hA : A' = if kap = i then A else A.map fun x => x.add i) :
    (Instr.sliceAt 22 (.slice A n kap) (some (.int .i64 i)) (some (.int .i64 j)) none).run Try.prog w = .ok (.slice A' (j - i) (kap - i)) w := by
  rw [run_sliceAt_slice w 22 _ _ _ _ (show Try.prog.underlying 22 = some (.slice (Try.prog.elem 22)) by kernel_rfl)]; exact run_mid w hi hj hA
theorem pieces_lo {n m k : Nat} (hm : 0 < m) (h : k < pieces n m) : k * m < n := by
  unfold pieces at h
  have := (Nat.lt_div_iff_mul_lt hm).1 h
  omega
theorem pieces_hi (n : Nat) {m : Nat} (hm : 0 < m) : n ≤ pieces n m * m := by
  unfold pieces
  have h1 := Nat.div_add_mod (n + m - 1) m
  have h2 := Nat.mod_lt (n + m - 1) hm
  rw [Nat.mul_comm] at h1
  omega
theorem split_bad_c (d : List Int) (A : Option Addr) (kap : Nat) (off most : Int) (last : Bool) (w : World) (hn : d.length ≤ 1000000) (hb : badB d.length off most = true) :
    Calls Try.prog 18 #[.slice A d.length kap, .int .i64 off, .int .i64 most, .bool last] w (Splits w d off most last) := by
  have HE : Kept (splitE d.length off most last = 2) := ⟨by unfold splitE; rw [if_pos hb]⟩
  have hn0 : (0 : Int) ≤ d.length := by omega
  have hn1 : (d.length : Int) ≤ 1000000 := by omega
  have hcase : most < 1 ∨ (¬ most < 1 ∧ 64 < most) ∨ (¬ most < 1 ∧ ¬ 64 < most ∧ off < 0) ∨ (¬ most < 1 ∧ ¬ 64 < most ∧ ¬ off < 0 ∧ 1099511627776 - (d.length : Int) < off) := by
    simp only [badB, Bool.or_eq_true, decide_eq_true_eq] at hb
    omega
  clear hb
  rcases hcase with y1 | ⟨y1, y2⟩ | ⟨y1, y2, y3⟩ | ⟨y1, y2, y3, y4⟩
  all_goals
    go_enter Try.func18, Try.ntmps18
    go_wp2_with fail
    go_ret2
    exact splits_none HE.out (by decide) (Below.refl _ _)
theorem OwnL.add {w2 w3 : World} {B : Nat} {v v3 : Value} {L : List Seg} {ps : List PSeg} {p : PSeg} (h : OwnL w2 B v L ps) (hp : OwnS w2 B p) (o : Obj) (hg : (w2.alloc o).grownBy w3 v.ownBlock) (ho : w3.ownsRow B 24 3 v3 (ps.length + 1) (scells ps ++ scells [p])) : OwnL w3 B v3 (L ++ [p.s]) (ps ++ [p]) := by
  have hr := h.row.alloc o
  refine ⟨by rw [segs_app, h.eq]; rfl, by rw [List.length_append, scells_app]; exact ho, fun q hq => ?_⟩
  have : OwnS w2 B q := by
    rcases List.mem_append.1 hq with hq | hq
    · exact h.seg q hq
    · simp at hq; rw [hq]; exact hp
  exact ⟨own_grown (this.1.alloc o) hr (by decide) hg, this.2⟩
theorem lit_seg {w : World} {p : PSeg} : Reads (w.alloc (.cells #[.int .i64 p.s.off, .slice p.A p.s.data.length p.kap, .bool p.s.last] 24)) (w.alloc (.cells #[.int .i64 p.s.off, .slice p.A p.s.data.length p.kap, .bool p.s.last] 24)).heap.size 3 (some ⟨w.heap.size, 0, none⟩) 1 (scells [p]) := by
  have := World.ownsRow_lit (base := w.heap.size) (e := 24) (size := 3) w #[.int .i64 p.s.off, .slice p.A p.s.data.length p.kap, .bool p.s.last] 1 (Nat.le_refl _) (by unfold maxLen; omega) (by simp)
  exact Reads.of_own this
theorem segI_val (d : List Int) (off : Int) (m : Nat) (last : Bool) (n k f t : Nat) (hf : k * m = f) (ht : min ((k + 1) * m) d.length = t) (ht2 : t ≤ d.length) : segI d off m last n k = ⟨off + (f : Nat), (d.take t).drop f, last && decide (k + 1 = n)⟩ := by
  unfold segI; rw [hf, ht]
theorem mid_len (d : List Int) {f t : Nat} (ht : t ≤ d.length) : ((d.take t).drop f).length = t - f := by rw [List.length_drop, List.length_take]; omega
set_option maxRecDepth 100000 in
set_option maxHeartbeats 8000000 in
theorem split_ok_c (d : List Int) (A : Option Addr) (kap : Nat) (off : Int) (m : Nat) (last : Bool) (w : World) (B : Nat) (hr : Reads w B 1 A d.length (bv d)) (hby : Bytes d) (hkap : d.length ≤ kap) (hmax : kap ≤ maxLen) (hB : B ≤ w.heap.size) (hn : d.length ≤ 1000000) (hb : badB d.length off m = false) :
    Calls Try.prog 18 #[.slice A d.length kap, .int .i64 off, .int .i64 m, .bool last] w (Splits w d off m last) := by
  obtain ⟨jj, hjj, hy0, hy1, hy2⟩ := info_parts info24
  unfold maxLen at hmax
  have HR := Kept.mk hr
  have HBY := Kept.mk hby
  have HB := Kept.mk hb
  have hcase : 1 ≤ m ∧ m ≤ 64 ∧ 0 ≤ off ∧ off ≤ 1099511627776 - (d.length : Int) := by
    simp only [badB, Bool.or_eq_false_iff, decide_eq_false_iff_not] at hb
    omega
  obtain ⟨y1, y2, y3, y4⟩ := hcase
  clear hr hby hb
  have z0 : (0 : Int) ≤ d.length := by omega
  have z1 : (d.length : Int) ≤ 1000000 := by omega
  have z2 : (1 : Int) ≤ m := by omega
  have z3 : (m : Int) ≤ 64 := by omega
  obtain ⟨N, HN⟩ : ∃ N, Kept (N = pieces d.length m) := ⟨_, ⟨rfl⟩⟩
  have hqd : ((d.length : Int) + m - 1) / m = N := by
    rw [HN.out]; unfold pieces
    rw [show ((d.length : Int) + m - 1) = ((d.length + m - 1 : Nat) : Int) by omega]
    exact (Int.natCast_ediv _ _).symm
  have hN0 : N ≤ 1000063 := by
    rw [HN.out]; unfold pieces
    exact Nat.le_trans (Nat.div_le_self _ _) (by omega)
  obtain ⟨n, Hn⟩ : ∃ n, Kept (n = nP d.length m last) := ⟨_, ⟨rfl⟩⟩
  have HNN : Kept (n = if N = 0 ∧ last = true then 1 else N) := ⟨by rw [Hn.out, HN.out]; rfl⟩
  have hn0 : n ≤ 1000063 := by rw [HNN.out]; split <;> omega
  have HEE : Kept (splitE d.length off m last = if 1000 < n then 5 else 0) := ⟨by unfold splitE; rw [HB.out, Hn.out]; simp⟩
  go_enter Try.func18, Try.ntmps18
  obtain ⟨b, HBB⟩ : ∃ b, Kept (b = (decide (N = 0) && last)) := ⟨_, ⟨rfl⟩⟩
  go_upto_region 4 with fail
  go_cut [43] (fun s43 wx => s43 = .bool b ∧ w = wx)
  case first =>
    have hc3 : (N = 0 ∧ ((N : Int) == 0) = true) ∨ (N ≠ 0 ∧ ((N : Int) == 0) = false) := by
      by_cases h0 : N = 0
      · left; exact ⟨h0, by simp [h0]⟩
      · right; exact ⟨h0, beq_false_of_ne (by omega)⟩
    rcases hc3 with ⟨c1, c4⟩ | ⟨c1, c4⟩
    · have C : Kept (b = last) := ⟨by rw [HBB.out]; simp [c1]⟩
      clear c1
      go_wp2_with fail
      go_meet
      exact ⟨by rw [C.out], rfl⟩
    · have C : Kept (b = false) := ⟨by rw [HBB.out]; simp [c1]⟩
      clear c1
      go_wp2_with fail
      go_meet
      exact ⟨by rw [C.out], rfl⟩
  case rest =>
   obtain ⟨rfl, rfl⟩ := hcut
   go_upto_if 43 with fail
   go_cut [10] (fun s10 wx => s10 = .int .i64 n ∧ w = wx)
   case first =>
    have C : Kept (n = if b = true then 1 else N) := ⟨by rw [HBB.out, HNN.out]; cases last <;> simp⟩
    cases b
    · go_wp2_with fail
      go_meet
      exact ⟨by rw [hqd, C.out]; rfl, rfl⟩
    · go_wp2_with fail
      go_meet
      exact ⟨by rw [C.out]; rfl, rfl⟩
   case rest =>
    obtain ⟨rfl, rfl⟩ := hcut
    clear hqd
    by_cases hbig : 1000 < n
    · have HE5 : Kept (splitE d.length off m last = 5) := ⟨by rw [HEE.out, if_pos hbig]⟩
      have hbig' : (1000 : Int) < n := by omega
      go_wp2_with fail
      go_ret2
      exact splits_none HE5.out (by decide) (Below.refl _ _)
    · have HE0 : Kept (splitE d.length off m last = 0) := ⟨by rw [HEE.out, if_neg hbig]⟩
      have hn1 : n ≤ 1000 := by omega
      have hn2 : ¬ (1000 : Int) < n := by omega
      have hn3 : (n : Int) ≤ 1000 := by omega
      have HLO : Kept (∀ k, k < n → k * m ≤ d.length) := ⟨fun k hk => by
        by_cases h0 : N = 0
        · have : n ≤ 1 := by rw [HNN.out, h0]; split <;> omega
          obtain rfl : k = 0 := by omega
          omega
        · have : n = N := by rw [HNN.out]; simp [h0]
          exact Nat.le_of_lt (pieces_lo y1 (by rw [← HN.out, ← this]; exact hk))⟩
      clear hbig
      go_wp2_with fail
      go_loopw [11, 47] (fun v11 v47 wr => ∃ (k : Nat) (ps : List PSeg), k ≤ n ∧ v47 = .int .i64 k ∧ Kept (OwnL wr w.heap.size v11 (splitK d off m last n k) ps) ∧ Kept (Below w.heap.size w wr)) (fun _ v47 _ => n - (intOf v47).toNat)
      case atStart => exact ⟨0, [], by omega, rfl, ⟨⟨rfl, World.ownsRow_nil _ _ _ _, fun p hp => by simp at hp⟩⟩, ⟨Below.refl _ _⟩⟩
      case round =>
        obtain ⟨k, ps, hk, rfl, HL, HD⟩ := hrel
        by_cases hlt : k < n
        · obtain ⟨f, HF⟩ : ∃ f, Kept (k * m = f) := ⟨_, ⟨rfl⟩⟩
          obtain ⟨t, HT⟩ : ∃ t, Kept (min ((k + 1) * m) d.length = t) := ⟨_, ⟨rfl⟩⟩
          have hfl : f ≤ d.length := by rw [← HF.out]; exact HLO.out k hlt
          have hg0 : (k + 1) * m = f + m := by rw [Nat.succ_mul, HF.out]
          have htt : t = if d.length < f + m then d.length else f + m := by rw [← HT.out, hg0]; split <;> omega
          have htl : t ≤ d.length := by rw [htt]; split <;> omega
          have hft : f ≤ t := by rw [htt]; split <;> omega
          have hte : (if (d.length : Int) < f + m then (d.length : Int) else (f : Int) + m) = t := by rw [htt]; split <;> split <;> omega
          have HTE := Kept.mk hte
          have e1 : (k : Int) * m = f := by rw [← HF.out]; simp
          have e2 : ((k : Int) + 1) * m = f + m := by rw [← e1, Int.add_mul]; omega
          have e1' : (m : Int) * k = f := by rw [Int.mul_comm]; exact e1
          obtain ⟨A', HA'⟩ : ∃ A', Kept (A' = if kap = f then A else A.map fun x => x.add f) := ⟨_, ⟨rfl⟩⟩
          have HRD : Kept (Reads wr B 1 A' (t - f) (bv ((d.take t).drop f))) := ⟨by
            have := ((HR.out.below (HD.out.mono hB)).take_ htl).cut (k := f) hft (by omega : t ≤ kap)
            rw [HA'.out, bv_drop, bv_take]
            simpa using this⟩
          have hsl := fun w => run_mid (n := d.length) w hft (by omega : t ≤ kap) HA'.out
          have hsl2 := fun w => run_mid2 (n := d.length) w hft (by omega : t ≤ kap) HA'.out
          have HPL : Kept (ps.length = k) := ⟨by rw [← segs_len, HL.out.eq, splitK_len]⟩
          have hpl : ps.length ≤ 1000 := by rw [HPL.out]; omega
          have HSV := Kept.mk (segI_val d off m last n k f t HF.out HT.out htl)
          have HSN := Kept.mk (splitK_next d off m last n k)
          have HBZ := HD.out.size
          clear htt hg0 hte
          by_cases hge : (d.length : Int) < f + m
          · obtain rfl : d.length = t := by have := HTE.out; rw [if_pos hge] at this; omega
            cases last
            · have HLX : Kept ((false && decide (k + 1 = n)) = false) := ⟨rfl⟩
              go_wp2_with (first | (go_at_call 27; refine (clone_n A' _ (d.length - f) ((d.take d.length).drop f) _ B (mid_len d htl) HRD.out (by omega) (by omega)).mono ?_; rintro e w2 ⟨v2, rfl, ho2, hb2⟩; obtain ⟨A2, m2, rfl⟩ := own_slice ho2; have HO2 := Kept.mk ho2; have HL2 := Kept.mk (HL.out.new_ hb2); have HD2 := Kept.mk (join HD.out hb2); have HSS := Kept.mk (lit_seg (w := w2) (p := ⟨⟨off + (f : Nat), (d.take d.length).drop f, false⟩, A2, m2⟩)); clear ho2 hb2) | (at_builtin; refine wpList_append_any _ rfl _ _ 34 rfl w.heap.size 24 jj _ 3 40 Try.underlying34 hjj hy0 hy1 hy2 rfl (by omega) _ ps.length (scells ps) rfl (HL2.out.row.alloc _) _ (some ⟨w2.heap.size, 0, none⟩) 1 1 (scells [⟨⟨off + (f : Nat), (d.take d.length).drop f, false⟩, A2, m2⟩]) rfl (by have := HSS.out; rw [mid_len d htl] at this; exact this) scells_one (by unfold maxLen; omega) (by omega) (by have := HD2.out.size; simp only [World.size_alloc]; omega) ?_; intro v3 w3 ho3 hg3 _; have HL3 := Kept.mk (HL2.out.add (p := ⟨⟨off + (f : Nat), (d.take d.length).drop f, false⟩, A2, m2⟩) ⟨by rw [mid_len d htl]; exact own_base HO2.out HBZ, (HBY.out.take _).drop _⟩ _ hg3 ho3); have HD3 : Kept (Below w.heap.size w w3) := ⟨(HD2.out.alloc HD2.out.size _).grown hg3 (by have := HD2.out.size; simp only [World.size_alloc]; omega) (fun g hg => (HL2.out.row.lt g hg).1)⟩; clear ho3 hg3))
              go_roundw
              case rel => exact ⟨k + 1, _, by omega, by go_num, ⟨by rw [HSN.out, HSV.out, HLX.out]; exact HL3.out⟩, HD3⟩
              case measure => simp [intOf]; omega
            · by_cases hkn : k + 1 = n
              · have HLX : Kept ((true && decide (k + 1 = n)) = true) := ⟨by simp [hkn]⟩
                have q1 : ((k : Int) == (n : Int) - 1) = true := by simp; omega
                clear hkn
                go_wp2_with (first | (go_at_call 27; refine (clone_n A' _ (d.length - f) ((d.take d.length).drop f) _ B (mid_len d htl) HRD.out (by omega) (by omega)).mono ?_; rintro e w2 ⟨v2, rfl, ho2, hb2⟩; obtain ⟨A2, m2, rfl⟩ := own_slice ho2; have HO2 := Kept.mk ho2; have HL2 := Kept.mk (HL.out.new_ hb2); have HD2 := Kept.mk (join HD.out hb2); have HSS := Kept.mk (lit_seg (w := w2) (p := ⟨⟨off + (f : Nat), (d.take d.length).drop f, true⟩, A2, m2⟩)); clear ho2 hb2) | (at_builtin; refine wpList_append_any _ rfl _ _ 34 rfl w.heap.size 24 jj _ 3 40 Try.underlying34 hjj hy0 hy1 hy2 rfl (by omega) _ ps.length (scells ps) rfl (HL2.out.row.alloc _) _ (some ⟨w2.heap.size, 0, none⟩) 1 1 (scells [⟨⟨off + (f : Nat), (d.take d.length).drop f, true⟩, A2, m2⟩]) rfl (by have := HSS.out; rw [mid_len d htl] at this; exact this) scells_one (by unfold maxLen; omega) (by omega) (by have := HD2.out.size; simp only [World.size_alloc]; omega) ?_; intro v3 w3 ho3 hg3 _; have HL3 := Kept.mk (HL2.out.add (p := ⟨⟨off + (f : Nat), (d.take d.length).drop f, true⟩, A2, m2⟩) ⟨by rw [mid_len d htl]; exact own_base HO2.out HBZ, (HBY.out.take _).drop _⟩ _ hg3 ho3); have HD3 : Kept (Below w.heap.size w w3) := ⟨(HD2.out.alloc HD2.out.size _).grown hg3 (by have := HD2.out.size; simp only [World.size_alloc]; omega) (fun g hg => (HL2.out.row.lt g hg).1)⟩; clear ho3 hg3))
                go_roundw
                case rel => exact ⟨k + 1, _, by omega, by go_num, ⟨by rw [HSN.out, HSV.out, HLX.out]; exact HL3.out⟩, HD3⟩
                case measure => simp [intOf]; omega
              · have HLX : Kept ((true && decide (k + 1 = n)) = false) := ⟨by simp [hkn]⟩
                have q1 : ((k : Int) == (n : Int) - 1) = false := beq_false_of_ne (by omega)
                clear hkn
                go_wp2_with (first | (go_at_call 27; refine (clone_n A' _ (d.length - f) ((d.take d.length).drop f) _ B (mid_len d htl) HRD.out (by omega) (by omega)).mono ?_; rintro e w2 ⟨v2, rfl, ho2, hb2⟩; obtain ⟨A2, m2, rfl⟩ := own_slice ho2; have HO2 := Kept.mk ho2; have HL2 := Kept.mk (HL.out.new_ hb2); have HD2 := Kept.mk (join HD.out hb2); have HSS := Kept.mk (lit_seg (w := w2) (p := ⟨⟨off + (f : Nat), (d.take d.length).drop f, false⟩, A2, m2⟩)); clear ho2 hb2) | (at_builtin; refine wpList_append_any _ rfl _ _ 34 rfl w.heap.size 24 jj _ 3 40 Try.underlying34 hjj hy0 hy1 hy2 rfl (by omega) _ ps.length (scells ps) rfl (HL2.out.row.alloc _) _ (some ⟨w2.heap.size, 0, none⟩) 1 1 (scells [⟨⟨off + (f : Nat), (d.take d.length).drop f, false⟩, A2, m2⟩]) rfl (by have := HSS.out; rw [mid_len d htl] at this; exact this) scells_one (by unfold maxLen; omega) (by omega) (by have := HD2.out.size; simp only [World.size_alloc]; omega) ?_; intro v3 w3 ho3 hg3 _; have HL3 := Kept.mk (HL2.out.add (p := ⟨⟨off + (f : Nat), (d.take d.length).drop f, false⟩, A2, m2⟩) ⟨by rw [mid_len d htl]; exact own_base HO2.out HBZ, (HBY.out.take _).drop _⟩ _ hg3 ho3); have HD3 : Kept (Below w.heap.size w w3) := ⟨(HD2.out.alloc HD2.out.size _).grown hg3 (by have := HD2.out.size; simp only [World.size_alloc]; omega) (fun g hg => (HL2.out.row.lt g hg).1)⟩; clear ho3 hg3))
                go_roundw
                case rel => exact ⟨k + 1, _, by omega, by go_num, ⟨by rw [HSN.out, HSV.out, HLX.out]; exact HL3.out⟩, HD3⟩
                case measure => simp [intOf]; omega
          · have hge' : ((f : Int) + m) ≤ d.length := by omega
            have ht9 : (f : Int) + m = t := by have := HTE.out; rw [if_neg hge] at this; omega
            cases last
            · have HLX : Kept ((false && decide (k + 1 = n)) = false) := ⟨rfl⟩
              go_wp2_with (first | (go_at_call 27; refine (clone_n A' _ (t - f) ((d.take t).drop f) _ B (mid_len d htl) HRD.out (by omega) (by omega)).mono ?_; rintro e w2 ⟨v2, rfl, ho2, hb2⟩; obtain ⟨A2, m2, rfl⟩ := own_slice ho2; have HO2 := Kept.mk ho2; have HL2 := Kept.mk (HL.out.new_ hb2); have HD2 := Kept.mk (join HD.out hb2); have HSS := Kept.mk (lit_seg (w := w2) (p := ⟨⟨off + (f : Nat), (d.take t).drop f, false⟩, A2, m2⟩)); clear ho2 hb2) | (at_builtin; refine wpList_append_any _ rfl _ _ 34 rfl w.heap.size 24 jj _ 3 40 Try.underlying34 hjj hy0 hy1 hy2 rfl (by omega) _ ps.length (scells ps) rfl (HL2.out.row.alloc _) _ (some ⟨w2.heap.size, 0, none⟩) 1 1 (scells [⟨⟨off + (f : Nat), (d.take t).drop f, false⟩, A2, m2⟩]) rfl (by have := HSS.out; rw [mid_len d htl] at this; exact this) scells_one (by unfold maxLen; omega) (by omega) (by have := HD2.out.size; simp only [World.size_alloc]; omega) ?_; intro v3 w3 ho3 hg3 _; have HL3 := Kept.mk (HL2.out.add (p := ⟨⟨off + (f : Nat), (d.take t).drop f, false⟩, A2, m2⟩) ⟨by rw [mid_len d htl]; exact own_base HO2.out HBZ, (HBY.out.take _).drop _⟩ _ hg3 ho3); have HD3 : Kept (Below w.heap.size w w3) := ⟨(HD2.out.alloc HD2.out.size _).grown hg3 (by have := HD2.out.size; simp only [World.size_alloc]; omega) (fun g hg => (HL2.out.row.lt g hg).1)⟩; clear ho3 hg3))
              go_roundw
              case rel => exact ⟨k + 1, _, by omega, by go_num, ⟨by rw [HSN.out, HSV.out, HLX.out]; exact HL3.out⟩, HD3⟩
              case measure => simp [intOf]; omega
            · by_cases hkn : k + 1 = n
              · have HLX : Kept ((true && decide (k + 1 = n)) = true) := ⟨by simp [hkn]⟩
                have q1 : ((k : Int) == (n : Int) - 1) = true := by simp; omega
                clear hkn
                go_wp2_with (first | (go_at_call 27; refine (clone_n A' _ (t - f) ((d.take t).drop f) _ B (mid_len d htl) HRD.out (by omega) (by omega)).mono ?_; rintro e w2 ⟨v2, rfl, ho2, hb2⟩; obtain ⟨A2, m2, rfl⟩ := own_slice ho2; have HO2 := Kept.mk ho2; have HL2 := Kept.mk (HL.out.new_ hb2); have HD2 := Kept.mk (join HD.out hb2); have HSS := Kept.mk (lit_seg (w := w2) (p := ⟨⟨off + (f : Nat), (d.take t).drop f, true⟩, A2, m2⟩)); clear ho2 hb2) | (at_builtin; refine wpList_append_any _ rfl _ _ 34 rfl w.heap.size 24 jj _ 3 40 Try.underlying34 hjj hy0 hy1 hy2 rfl (by omega) _ ps.length (scells ps) rfl (HL2.out.row.alloc _) _ (some ⟨w2.heap.size, 0, none⟩) 1 1 (scells [⟨⟨off + (f : Nat), (d.take t).drop f, true⟩, A2, m2⟩]) rfl (by have := HSS.out; rw [mid_len d htl] at this; exact this) scells_one (by unfold maxLen; omega) (by omega) (by have := HD2.out.size; simp only [World.size_alloc]; omega) ?_; intro v3 w3 ho3 hg3 _; have HL3 := Kept.mk (HL2.out.add (p := ⟨⟨off + (f : Nat), (d.take t).drop f, true⟩, A2, m2⟩) ⟨by rw [mid_len d htl]; exact own_base HO2.out HBZ, (HBY.out.take _).drop _⟩ _ hg3 ho3); have HD3 : Kept (Below w.heap.size w w3) := ⟨(HD2.out.alloc HD2.out.size _).grown hg3 (by have := HD2.out.size; simp only [World.size_alloc]; omega) (fun g hg => (HL2.out.row.lt g hg).1)⟩; clear ho3 hg3))
                go_roundw
                case rel => exact ⟨k + 1, _, by omega, by go_num, ⟨by rw [HSN.out, HSV.out, HLX.out]; exact HL3.out⟩, HD3⟩
                case measure => simp [intOf]; omega
              · have HLX : Kept ((true && decide (k + 1 = n)) = false) := ⟨by simp [hkn]⟩
                have q1 : ((k : Int) == (n : Int) - 1) = false := beq_false_of_ne (by omega)
                clear hkn
                go_wp2_with (first | (go_at_call 27; refine (clone_n A' _ (t - f) ((d.take t).drop f) _ B (mid_len d htl) HRD.out (by omega) (by omega)).mono ?_; rintro e w2 ⟨v2, rfl, ho2, hb2⟩; obtain ⟨A2, m2, rfl⟩ := own_slice ho2; have HO2 := Kept.mk ho2; have HL2 := Kept.mk (HL.out.new_ hb2); have HD2 := Kept.mk (join HD.out hb2); have HSS := Kept.mk (lit_seg (w := w2) (p := ⟨⟨off + (f : Nat), (d.take t).drop f, false⟩, A2, m2⟩)); clear ho2 hb2) | (at_builtin; refine wpList_append_any _ rfl _ _ 34 rfl w.heap.size 24 jj _ 3 40 Try.underlying34 hjj hy0 hy1 hy2 rfl (by omega) _ ps.length (scells ps) rfl (HL2.out.row.alloc _) _ (some ⟨w2.heap.size, 0, none⟩) 1 1 (scells [⟨⟨off + (f : Nat), (d.take t).drop f, false⟩, A2, m2⟩]) rfl (by have := HSS.out; rw [mid_len d htl] at this; exact this) scells_one (by unfold maxLen; omega) (by omega) (by have := HD2.out.size; simp only [World.size_alloc]; omega) ?_; intro v3 w3 ho3 hg3 _; have HL3 := Kept.mk (HL2.out.add (p := ⟨⟨off + (f : Nat), (d.take t).drop f, false⟩, A2, m2⟩) ⟨by rw [mid_len d htl]; exact own_base HO2.out HBZ, (HBY.out.take _).drop _⟩ _ hg3 ho3); have HD3 : Kept (Below w.heap.size w w3) := ⟨(HD2.out.alloc HD2.out.size _).grown hg3 (by have := HD2.out.size; simp only [World.size_alloc]; omega) (fun g hg => (HL2.out.row.lt g hg).1)⟩; clear ho3 hg3))
                go_roundw
                case rel => exact ⟨k + 1, _, by omega, by go_num, ⟨by rw [HSN.out, HSV.out, HLX.out]; exact HL3.out⟩, HD3⟩
                case measure => simp [intOf]; omega
        · obtain rfl : k = n := by omega
          clear hlt
          go_wp2_with fail
          go_ret2
          exact ⟨_, ps, by rw [HE0.out]; rfl, by rw [splitP0 HE0.out Hn.out]; exact HL.out, HD.out⟩
theorem split_c (d : List Int) (A : Option Addr) (kap : Nat) (off most : Int) (last : Bool) (w : World) (B : Nat) (hr : Reads w B 1 A d.length (bv d)) (hby : Bytes d) (hkap : d.length ≤ kap) (hmax : kap ≤ maxLen) (hB : B ≤ w.heap.size) (hn : d.length ≤ 1000000) :
    Calls Try.prog 18 #[.slice A d.length kap, .int .i64 off, .int .i64 most, .bool last] w (Splits w d off most last) := by
  cases hb : badB d.length off most with
  | true => exact split_bad_c d A kap off most last w hn hb
  | false =>
    have h1 : 1 ≤ most := by
      simp only [badB, Bool.or_eq_false_iff, decide_eq_false_iff_not] at hb
      omega
    obtain ⟨m, rfl⟩ : ∃ m : Nat, most = m := ⟨most.toNat, by omega⟩
    exact split_ok_c d A kap off m last w B hr hby hkap hmax hB hn hb
end Go.Proofs.Ytdhajibegkkeiaa
