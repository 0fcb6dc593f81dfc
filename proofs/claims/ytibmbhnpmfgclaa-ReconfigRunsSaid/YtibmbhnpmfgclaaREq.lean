/- Reconfig: messages compared whole; slices.Equal, slices.Clone and slices.Delete at messages (printed by gen_req.py). -/
import Derived.Test.YtibmbhnpmfgclaaRRep
import Derived.Test.YtibmbhnpmfgclaaRTree
import Derived.WalkSpells
import Derived.Deep.RegionLaw
import Derived.Laws.IdiomCopy
import Derived.Lib.SliceRun
import Derived.Deep.Upon
namespace Go.Proofs.Ytibmbhnpmfgclaa
set_option linter.unusedVariables false
set_option linter.unusedSimpArgs false
open Go.RowKit Go.Maps
theorem eq3 (w : World) (d : Nat) (a b : Int) : (Op.equalIn (d + 1) 3 (.int .i64 a) (.int .i64 b)).run Try.prog w = .ok (a == b) w := by
  simp [Op.equalIn, run_underlying Try.underlying3]
theorem cells3 : Try.prog.cellsOf 3 = 1 := by kernel_rfl
def mB (x y : Mg) : Bool := x.kind == y.kind && (x.frm == y.frm && (x.to_ == y.to_ && x.ep == y.ep))
theorem mB_is (x y : Mg) : mB x y = decide (x = y) := by
  cases x; cases y
  rw [Bool.eq_iff_iff]; simp [mB]
set_option maxHeartbeats 2000000 in
theorem eqM (w : World) (d : Nat) (a b c e a' b' c' e' : Int) : (Op.equalIn (d + 2) 39 (.agg #[.int .i64 a, .int .i64 b, .int .i64 c, .int .i64 e]) (.agg #[.int .i64 a', .int .i64 b', .int .i64 c', .int .i64 e'])).run Try.prog w = .ok (mB ⟨a, b, c, e⟩ ⟨a', b', c', e'⟩) w := by
  rw [Op.equalIn]
  simp [run_underlying Try.underlying39, eq3]
  by_cases h1 : a = a' <;> by_cases h2 : b = b' <;> by_cases h3 : c = c' <;> by_cases h4 : e = e' <;> simp [mB, List.range'_succ, part, cells3, eq3, h1, h2, h3, h4, run_underlying Try.underlying3]
theorem neqM (w : World) (a b c e a' b' c' e' : Int) : (binOp .neq 39 (.agg #[.int .i64 a, .int .i64 b, .int .i64 c, .int .i64 e]) (.agg #[.int .i64 a', .int .i64 b', .int .i64 c', .int .i64 e'])).run Try.prog w = .ok (.bool (!(mB ⟨a, b, c, e⟩ ⟨a', b', c', e'⟩))) w := by
  simp only [binOp]
  simp [Op.equal, Op.maxDepth, eqM w 9998]
def Drewn (w w' : World) : Prop := ∃ n, w' = w.drewN n
theorem Drewn.reads {w w' : World} {B sz n : Nat} {A : Option Addr} {xs : List Value} (h : Drewn w w') (hr : Reads w B sz A n xs) : Reads w' B sz A n xs := by
  obtain ⟨k, rfl⟩ := h; exact hr.drewN k
theorem Drewn.step {w w' : World} (h : Drewn w w') (n : Nat) : Drewn w (w'.drewN n) := by
  obtain ⟨k, rfl⟩ := h; exact ⟨k + n, by simp⟩
theorem Drewn.below {w w' : World} (h : Drewn w w') : Below w.heap.size w w' := by
  obtain ⟨k, rfl⟩ := h; exact dN (Below.refl _ _) k
theorem take_eq_succ {α : Type} {l m : List α} {k : Nat} {x y : α} (hl : l[k]? = some x) (hm : m[k]? = some y) (h : l.take k = m.take k) (hxy : x = y) : l.take (k + 1) = m.take (k + 1) := by
  rw [List.take_add_one, List.take_add_one, h, hl, hm, hxy]
theorem ne_of_at {α : Type} {l m : List α} {k : Nat} {x y : α} (hl : l[k]? = some x) (hm : m[k]? = some y) (hxy : x ≠ y) : l ≠ m := by
  rintro rfl; rw [hl] at hm; injection hm with hm; exact hxy hm
abbrev mcells (l : List Mg) : List Value := l.flatMap mcell
theorem mcells_app (l m : List Mg) : mcells (l ++ m) = mcells l ++ mcells m := List.flatMap_append
theorem mcells_len (l : List Mg) : (mcells l).length = l.length * 4 := flat_len mcell_len l
/-- Element k of a slice of messages. -/
theorem m_cells {w : World} {B : Nat} {A : Option Addr} {l : List Mg} (h : Reads w B 4 A l.length (mcells l)) {k : Nat} (hk : k < l.length) : ∃ x b off, l[k]? = some x ∧ A = some ⟨b, off, none⟩ ∧ b < w.heap.size ∧
    w.cell? ⟨b, off + k * 4, none⟩ = some (.int .i64 x.kind) ∧ w.cell? ⟨b, off + k * 4 + 1, none⟩ = some (.int .i64 x.frm) ∧ w.cell? ⟨b, off + k * 4 + 2, none⟩ = some (.int .i64 x.to_) ∧ w.cell? ⟨b, off + k * 4 + 3, none⟩ = some (.int .i64 x.ep) := by
  have hr : RowsAt w B 4 mcell A l := ⟨by omega, mcell_len, h⟩
  obtain ⟨x, b, off, hx, hA, -, hb, hc⟩ := hr.at_ hk
  exact ⟨x, b, off, hx, hA, hb, hc 0 _ rfl, hc 1 _ rfl, hc 2 _ rfl, hc 3 _ rfl⟩
set_option maxHeartbeats 4000000 in
theorem eqm_c (l m : List Mg) (A A' : Option Addr) (kap kap' : Nat) (w : World) (B B' : Nat) (hl : Reads w B 4 A l.length (mcells l)) (hm : Reads w B' 4 A' m.length (mcells m)) (hn : l.length ≤ 1000000000000000) (hn2 : m.length ≤ 1000000000000000) :
    Calls Try.prog 33 #[.slice A l.length kap, .slice A' m.length kap'] w fun e w' => e = .returned (.bool (decide (l = m))) ∧ Drewn w w' := by
  have HL := Kept.mk hl
  have HM := Kept.mk hm
  clear hl hm
  by_cases hlen : l.length = m.length
  · have HE := Kept.mk hlen
    have hle : l.length ≤ m.length := by omega
    have hle2 : m.length ≤ l.length := by omega
    clear hlen
    go_enter Try.func33, Try.ntmps33
    go_wp2_with fail
    go_loopw [13] (fun v13 wr => ∃ k : Nat, k ≤ l.length ∧ v13 = .int .i64 k ∧ Kept (l.take k = m.take k) ∧ Kept (Drewn w wr)) (fun v13 _ => l.length - (intOf v13).toNat)
    case atStart => exact ⟨0, by omega, rfl, ⟨rfl⟩, ⟨⟨0, rfl⟩⟩⟩
    case round =>
      obtain ⟨k, hk, rfl, HT, HD⟩ := hrel
      by_cases hlt : k < l.length
      · obtain ⟨x, b, off, hx, hA, hb, c1, c2, c3, c4⟩ := m_cells (HD.out.reads HL.out) hlt
        obtain ⟨y, b', off', hy, hA', hb', c1', c2', c3', c4'⟩ := m_cells (HD.out.reads HM.out) (show k < m.length by omega)
        have hz : x.kind = x.kind := rfl
        have HX := Kept.mk hx
        have HY := Kept.mk hy
        rw [hA, hA']
        clear hx hy hA hA'
        by_cases hxy : x = y
        · have HN := Kept.mk (take_eq_succ HX.out HY.out HT.out hxy)
          have hq := fun W => neqM W x.kind x.frm x.to_ x.ep y.kind y.frm y.to_ y.ep
          have HB2 : Kept (mB ⟨x.kind, x.frm, x.to_, x.ep⟩ ⟨y.kind, y.frm, y.to_, y.ep⟩ = true) := ⟨(mB_is x y).trans (by simpa using hxy)⟩
          simp only [HB2.out, Bool.not_true] at hq
          clear hxy HB2 hz
          generalize x.kind = x1 at *
          generalize x.frm = x2 at *
          generalize x.to_ = x3 at *
          generalize x.ep = x4 at *
          generalize y.kind = y1 at *
          generalize y.frm = y2 at *
          generalize y.to_ = y3 at *
          generalize y.ep = y4 at *
          go_wp2_with fail
          go_quiet (fail)
          go_wp2_with fail
          go_roundw
          case rel => exact ⟨k + 1, by omega, by go_num, HN, ⟨HD.out.step _⟩⟩
          case measure => simp [intOf]; omega
        · have HN := Kept.mk (ne_of_at HX.out HY.out hxy)
          have hq := fun W => neqM W x.kind x.frm x.to_ x.ep y.kind y.frm y.to_ y.ep
          have HB2 : Kept (mB ⟨x.kind, x.frm, x.to_, x.ep⟩ ⟨y.kind, y.frm, y.to_, y.ep⟩ = false) := ⟨(mB_is x y).trans (by simpa using hxy)⟩
          simp only [HB2.out, Bool.not_false] at hq
          clear hxy HB2 hz
          generalize x.kind = x1 at *
          generalize x.frm = x2 at *
          generalize x.to_ = x3 at *
          generalize x.ep = x4 at *
          generalize y.kind = y1 at *
          generalize y.frm = y2 at *
          generalize y.to_ = y3 at *
          generalize y.ep = y4 at *
          go_wp2_with fail
          go_quiet (fail)
          go_wp2_with fail
          go_ret
          exact ⟨ret_bool (by simpa using HN.out), HD.out.step _⟩
      · obtain rfl : k = l.length := by omega
        have HN : Kept (l = m) := ⟨by have h1 := HT.out; rw [List.take_length] at h1; rw [h1]; exact List.take_of_length_le (by omega)⟩
        clear HT
        go_wp2_with fail
        go_ret
        exact ⟨ret_bool (by simpa using HN.out), HD.out⟩
  · have HN : Kept (l ≠ m) := ⟨fun e => hlen (by rw [e])⟩
    have hne : l.length < m.length ∨ m.length < l.length := by omega
    clear hlen
    rcases hne with hne | hne
    all_goals
      go_enter Try.func33, Try.ntmps33
      go_wp2_with fail
      go_ret
      exact ⟨ret_bool (by simpa using HN.out), ⟨0, rfl⟩⟩
set_option maxHeartbeats 1000000 in
theorem clone_c (A : Option Addr) (n kap : Nat) (xs : List Value) (w : World) (B : Nat) (h : Reads w B 4 A n xs) (hB : B ≤ w.heap.size) (h1 : ∀ u ∈ xs, u.oneCell' = true) (hn : n ≤ 1000000) :
    Calls Try.prog 61 #[.slice A n kap] w fun e w' => ∃ A' kap', e = .returned (.slice A' n kap') ∧ w'.ownsRow w.heap.size 39 4 (.slice A' n kap') n xs ∧ Below w.heap.size w w' := by
  obtain ⟨i0, hi0, hz0, hz1, hz2⟩ := info_parts infoM
  rcases A with _ | ad
  · obtain ⟨rfl, rfl⟩ := reads_nil h
    have hq := fun (w : World) => Lib.run_eql_slice_nil w 40 39 none 0 kap 0 0 Try.underlying40
    simp only [Option.isNone] at hq
    go_enter Try.func61, Try.ntmps61
    go_wp2_with fail
    go_ret
    exact ⟨_, _, rfl, World.ownsRow_nil _ _ _ _, Below.refl _ _⟩
  · have hq := fun (w : World) => Lib.run_eql_slice_nil w 40 39 (some ad) n kap 0 0 Try.underlying40
    simp only [Option.isNone] at hq
    have HR := Kept.mk (h.alloc hB (.cells #[] 39))
    have HO := Kept.mk (World.ownsRow_lit (base := w.heap.size) (e := 39) (size := 4) w #[] 0 (Nat.le_refl _) (by unfold maxLen; omega) rfl)
    have HL := Kept.mk h1
    clear h h1 hB
    go_enter Try.func61, Try.ntmps61
    go_wp2_with (at_builtin; refine wpList_append_any _ rfl _ _ _ rfl w.heap.size 39 i0 _ 4 32 Try.underlying40 hi0 hz0 hz1 hz2 rfl (by omega) _ 0 _ rfl HO.out B (some ad) n kap xs rfl HR.out HL.out (by unfold maxLen; omega) (by omega) (by simp) ?_; intro v' w2 ho hg hat; obtain ⟨A', k', rfl⟩ := own_slice ho)
    go_ret
    refine ⟨A', k', rfl, by simpa using ho, ((Below.refl _ _).alloc (Nat.le_refl _) _).grown hg (by simp) (fun k hk => ?_)⟩
    exact (HO.out.lt k hk).1
theorem zeroM (w : World) : (zeroValue 39).run Try.prog w = .ok (.agg #[.int .i64 0, .int .i64 0, .int .i64 0, .int .i64 0]) w := by kernel_rfl
def zerosM : List Value := [.int .i64 0, .int .i64 0, .int .i64 0, .int .i64 0]
theorem run_clearM (w : World) (g o c : Nat) (ty : TypeId) (hc : ∀ j, j < 4 → (w.cell? ⟨g, o + j, none⟩).isSome = true) (hf : ∀ j, j < 4 → w.frozen? ⟨g, o + j, none⟩ = false) :
    (Builtin.clear_ #[40] ty #[.slice (some ⟨g, o, none⟩) 1 c]).run Try.prog w = .ok (.tuple #[]) (w.setCells g o zerosM) := by
  have hst := run_storeCells_cells (P := Try.prog) g o zerosM 0 w (by simpa [zerosM] using hc) (by simpa [zerosM] using hf) (by intro v hv'; simp [zerosM] at hv'; subst hv'; rfl)
  simp only [Nat.add_zero] at hst
  have hzc : (Builtin.zeroCells (Value.agg #[.int .i64 0, .int .i64 0, .int .i64 0, .int .i64 0]).cells 1).toList = zerosM := by kernel_rfl
  simp [Builtin.clear_, run_underlying Try.underlying40, zeroM, hzc, hst]
theorem onlyCells {S : Nat → Prop} {w w1 : World} {g o : Nat} {vs : List Value} (h : OnlyP S w w1) (hg : S g) : OnlyP S w (w1.setCells g o vs) := by
  induction vs generalizing w1 o with
  | nil => exact h
  | cons v r ih => exact ih (h.set (p := ⟨g, o, none⟩) (.inl hg) v)
theorem mcells_drop (l : List Mg) (i : Nat) : (mcells l).drop (i * 4) = mcells (l.drop i) := by
  induction l generalizing i with
  | nil => simp
  | cons m l ih =>
    cases i with
    | zero => simp
    | succ i => rw [show (i + 1) * 4 = i * 4 + 4 by omega]; simpa [mcell] using ih i
theorem mcells_take (l : List Mg) (i : Nat) : (mcells l).take (i * 4) = mcells (l.take i) := by
  induction l generalizing i with
  | nil => simp
  | cons m l ih =>
    cases i with
    | zero => simp
    | succ i => rw [show (i + 1) * 4 = i * 4 + 4 by omega]; simpa [mcell] using ih i
/-- What the two writes leave in the row. -/
theorem del_reads {w : World} {g kap i : Nat} {fly : List Mg} (hi : i < fly.length) (hk : fly.length ≤ kap) (hc : ∀ j u, (mcells fly)[j]? = some u → w.cell? ⟨g, j, none⟩ = some u) (hs : ∀ j, j < fly.length * 4 → (w.cell? ⟨g, j, none⟩).isSome = true) :
    Reads ((w.setCells g (0 + i * 4) (mcells (fly.drop (i + 1)))).setCells g ((fly.length - 1) * 4) zerosM) (g + 1) 4 (some ⟨g, 0, none⟩) (fly.length - 1) (mcells (fly.eraseIdx i)) := by
  have hle : (fly.eraseIdx i).length = fly.length - 1 := by rw [List.length_eraseIdx, if_pos hi]
  refine ⟨by rw [mcells_len, hle], fun hn => ⟨_, rfl, by simp, fun j u hu => ?_⟩⟩
  have hj : j < (fly.length - 1) * 4 := by
    have := (List.getElem?_eq_some_iff.1 hu).1
    rwa [mcells_len, hle] at this
  have hadd : (⟨g, 0, none⟩ : Addr).add j = ⟨g, j, none⟩ := by unfold Addr.add; split <;> simp_all
  rw [hadd, World.cell?_setCells_out g zerosM _ _ _ (fun _ _ => Or.inl hj)]
  rw [List.eraseIdx_eq_take_drop_succ, mcells_app] at hu
  have hlt : (mcells (fly.take i)).length = i * 4 := by rw [mcells_len, List.length_take]; omega
  rcases Nat.lt_or_ge j (i * 4) with h1 | h1
  · rw [World.cell?_setCells_out g _ _ _ _ (fun _ _ => Or.inl (by simp; omega))]
    rw [List.getElem?_append_left (by omega), ← mcells_take, List.getElem?_take_of_lt h1] at hu
    exact hc j u hu
  · rw [List.getElem?_append_right (by omega), hlt] at hu
    have hj2 := (List.getElem?_eq_some_iff.1 hu).1
    have := World.cell?_setCells_in g (mcells (fly.drop (i + 1))) (0 + i * 4) w (fun t ht => hs _ (by rw [mcells_len, List.length_drop] at ht; omega)) (j - i * 4) hj2
    rw [show 0 + i * 4 + (j - i * 4) = j by omega] at this
    rw [this]
    rw [List.getElem?_eq_getElem hj2] at hu
    exact hu
set_option maxRecDepth 100000 in
set_option maxHeartbeats 4000000 in
theorem del_c (fly : List Mg) (g kap i : Nat) (w : World) (B : Nat) (ho : w.ownsRow B 39 4 (.slice (some ⟨g, 0, none⟩) fly.length kap) fly.length (mcells fly)) (hi : i < fly.length) (hn : fly.length ≤ 1000000) :
    Calls Try.prog 60 #[.slice (some ⟨g, 0, none⟩) fly.length kap, .int .i64 i, .int .i64 ((i : Int) + 1)] w fun e w' => e = .returned (.slice (some ⟨g, 0, none⟩) (fly.length - 1) kap) ∧ Reads w' (g + 1) 4 (some ⟨g, 0, none⟩) (fly.length - 1) (mcells (fly.eraseIdx i)) ∧ OnlyP (fun x => x = g) w w' := by
  obtain ⟨i0, hi0, hz0, hz1, hz2⟩ := info_parts infoM
  obtain ⟨cur, hblk, hk, hkm, hcs, hcur⟩ : ∃ cur, Blk w g 39 cur ∧ fly.length ≤ kap ∧ kap ≤ maxLen ∧ cur.size = kap * 4 ∧ cur.toList.take (fly.length * 4) = mcells fly := by
    rcases ho.2 with ⟨h2, _⟩ | ⟨g', cap, cur, h1, h2, h3, h4, h5, h6, h7⟩
    · cases h2
    · injection h1 with h8 h9 h10
      injection h8 with h8
      injection h8 with h8
      subst h8 h10
      exact ⟨cur, h3, h4, h5, h6, h7⟩
  have hcell : ∀ j u, (mcells fly)[j]? = some u → w.cell? ⟨g, j, none⟩ = some u := fun j u hu => by
    refine hblk.cell j ?_
    have hj := (List.getElem?_eq_some_iff.1 hu).1
    rw [mcells_len] at hj
    rw [← hcur, List.getElem?_take_of_lt hj] at hu
    simpa using hu
  have hsome : ∀ j, j < kap * 4 → (w.cell? ⟨g, j, none⟩).isSome = true := fun j hj => by
    rw [hblk.cell j (Array.getElem?_eq_getElem (by omega))]; rfl
  have hfree : ∀ j, w.frozen? ⟨g, j, none⟩ = false := fun j => hblk.free j
  unfold maxLen at hkm
  have HD := Kept.mk (del_reads (w := w.drew) hi hk hcell (fun j hj => hsome j (by omega)))
  have s1 : Kept ((mcells (fly.drop (i + 1))).length = (fly.length - (i + 1)) * 4) := ⟨by rw [mcells_len, List.length_drop]⟩
  have s2 : Kept (∀ u ∈ mcells (fly.drop (i + 1)), u.oneCell' = true) := ⟨(m_one _)⟩
  have s3 : Kept (∀ t, t < (mcells (fly.drop (i + 1))).length → (w.drew.cell? ⟨g, 0 + i * 4 + t, none⟩).isSome = true ∧ w.drew.frozen? ⟨g, 0 + i * 4 + t, none⟩ = false) := ⟨fun t ht => by
    rw [s1.out] at ht
    exact ⟨hsome _ (by omega), hfree _⟩⟩
  obtain ⟨A, hA, HS⟩ : ∃ A : Addr, (if kap = i + 1 then (some ⟨g, 0, none⟩ : Option Addr) else some ⟨g, (i + 1) * 4, none⟩) = some A ∧ Kept (∀ t u, (mcells (fly.drop (i + 1)))[t]? = some u → w.drew.cell? (A.add t) = some u) := by
    by_cases h : kap = i + 1
    · refine ⟨⟨g, 0, none⟩, by simp [h], ⟨fun t u hu => ?_⟩⟩
      have h0 := (List.getElem?_eq_some_iff.1 hu).1
      rw [s1.out] at h0
      omega
    · refine ⟨⟨g, (i + 1) * 4, none⟩, by simp [h], ⟨fun t u hu => ?_⟩⟩
      have hadd : (⟨g, (i + 1) * 4, none⟩ : Addr).add t = ⟨g, (i + 1) * 4 + t, none⟩ := by unfold Addr.add; split <;> simp_all
      rw [hadd]
      rw [← mcells_drop, List.getElem?_drop] at hu
      exact hcell _ _ hu
  obtain ⟨W1, hW1⟩ : ∃ W1, W1 = w.drew.setCells g (0 + i * 4) (mcells (fly.drop (i + 1))) := ⟨_, rfl⟩
  have HW := Kept.mk hW1
  have HO1 : Kept (OnlyP (fun x => x = g) w W1) := ⟨by rw [hW1]; exact onlyCells (OnlyP.refl _ _).drew rfl⟩
  have hcl : ∀ ty c, (Builtin.clear_ #[40] ty #[.slice (some ⟨g, (fly.length - 1) * 4, none⟩) 1 c]).run Try.prog W1 = .ok (.tuple #[]) (W1.setCells g ((fly.length - 1) * 4) zerosM) := fun ty c =>
    run_clearM W1 g _ c ty (fun j hj => by
      have h0 : (w.drew.cell? ⟨g, (fly.length - 1) * 4 + j, none⟩).isSome = true := hsome _ (by omega)
      rw [hW1, World.cell?_setCells_out g _ _ _ _ (fun _ _ => Or.inr (by rw [s1.out]; simp; omega))]; exact h0) (fun j hj => by rw [hW1, World.frozen?_setCells]; exact hfree _)
  have hcl2 : ∀ ty c, (Builtin.clear_ #[40] ty #[.slice (some ⟨g, (i + (fly.length - (i + 1))) * 4, none⟩) (fly.length - (i + (fly.length - (i + 1)))) c]).run Try.prog W1 = .ok (.tuple #[]) (W1.setCells g ((fly.length - 1) * 4) zerosM) := fun ty c => by
    rw [show i + (fly.length - (i + 1)) = fly.length - 1 by omega, show fly.length - (fly.length - 1) = 1 by omega]
    exact hcl ty c
  clear hW1 hcell hsome hfree hcur hcs hblk ho hcl
  have hic : i ≤ kap := by omega
  have hjc : i + 1 ≤ kap := by omega
  have hx1 : (0 : Int) ≤ (i : Int) + 1 := by omega
  have hx2 : (i : Int) + 1 ≤ (fly.length : Int) := by omega
  go_enter Try.func60, Try.ntmps60
  go_wp2_with fail
  go_region_law (refine step_append_room rfl (.tmp 22) (.tmp 25) 40 rfl 39 i0 4 Try.underlying40 hi0 hz1 g 0 i kap (by simp [Act.eval, Act.put]) A (fly.length - (i + 1)) (kap - (i + 1)) (mcells (fly.drop (i + 1))) (by simp [Act.eval, Act.put]) s1.out HS.out s2.out (by omega) s3.out ?_; rw [← HW.out])
  go_wp2_with fail
  go_ret
  refine ⟨?_, ?_, onlyCells HO1.out rfl⟩
  · rw [show fly.length - 1 = i + (fly.length - (i + 1)) by omega]; rfl
  · rw [HW.out]; exact HD.out
end Go.Proofs.Ytibmbhnpmfgclaa
