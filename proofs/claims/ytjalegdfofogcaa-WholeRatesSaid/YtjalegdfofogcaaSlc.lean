/- slices.Clone, Delete, MinFunc and the statements' equal. -/
import Derived.Test.YtjalegdfofogcaaLawB
import Derived.Deep.OwnRows
import Derived.Deep.RegionLaw
import Derived.Laws.IdiomCopy
import Derived.Lib.SliceRun
import Derived.Deep.Upon
namespace Go.Proofs.Ytjalegdfofogcaa
set_option linter.unusedVariables false
set_option linter.unusedSimpArgs false
open Go.RowKit
theorem infoF : (Try.prog.info? 37).map (fun i => (i.zero, i.size, i.bytes)) = some (some (.agg #[.slice none 0 0, .bool false, .int .i64 0, .int .i64 0]), 4, 48) := by kernel_rfl
/-- A fresh row with the same cells. -/
def Clones (w : World) (e sz n : Nat) (xs : List Value) (r : Ending) (w' : World) : Prop :=
  ∃ v, r = .returned v ∧ w'.ownsRow w.heap.size e sz v n xs ∧ Below w.heap.size w w'
set_option maxHeartbeats 1000000 in
theorem cloneR_c (A : Option Addr) (n kap : Nat) (xs : List Value) (w : World) (B : Nat) (h : Reads w B 2 A n xs) (hB : B ≤ w.heap.size) (h1 : ∀ u ∈ xs, u.oneCell' = true) (hn : n ≤ 1000000) :
    Calls Try.prog 10 #[.slice A n kap] w (Clones w 32 2 n xs) := by
  obtain ⟨i0, hi0, hz0, hz1, hz2⟩ := info_parts infoR
  rcases A with _ | ad
  · obtain ⟨rfl, rfl⟩ := reads_nil h
    have hq := fun (w : World) => Lib.run_eql_slice_nil w 22 32 none 0 kap 0 0 Try.underlying22
    simp only [Option.isNone] at hq
    go_enter Try.func10, Try.ntmps10
    go_wp2_with fail
    go_ret
    exact ⟨_, rfl, World.ownsRow_nil _ _ _ _, Below.refl _ _⟩
  · have hq := fun (w : World) => Lib.run_eql_slice_nil w 22 32 (some ad) n kap 0 0 Try.underlying22
    simp only [Option.isNone] at hq
    have HR := Kept.mk (h.alloc hB (.cells #[] 32))
    have HO := Kept.mk (World.ownsRow_lit (base := w.heap.size) (e := 32) (size := 2) w #[] 0 (Nat.le_refl _) (by unfold maxLen; omega) rfl)
    have HL := Kept.mk h1
    clear h h1 hB
    go_enter Try.func10, Try.ntmps10
    go_wp2_with (at_builtin; refine wpList_append_any _ rfl _ _ _ rfl w.heap.size 32 i0 _ 2 16 Try.underlying22 hi0 hz0 hz1 hz2 rfl (by omega) _ 0 _ rfl HO.out B (some ad) n kap xs rfl HR.out HL.out (by unfold maxLen; omega) (by omega) (by simp) ?_; intro v' w2 ho hg hat)
    go_ret
    refine ⟨v', rfl, by simpa using ho, ((Below.refl _ _).alloc (Nat.le_refl _) _).grown hg (by simp) (fun k hk => ?_)⟩
    exact (HO.out.lt k hk).1
set_option maxHeartbeats 1000000 in
theorem cloneI_c (A : Option Addr) (n kap : Nat) (xs : List Value) (w : World) (B : Nat) (h : Reads w B 1 A n xs) (hB : B ≤ w.heap.size) (h1 : ∀ u ∈ xs, u.oneCell' = true) (hn : n ≤ 1000000) :
    Calls Try.prog 12 #[.slice A n kap] w (Clones w 3 1 n xs) := by
  obtain ⟨i0, hi0, hz0, hz1, hz2⟩ := info_parts infoI
  rcases A with _ | ad
  · obtain ⟨rfl, rfl⟩ := reads_nil h
    have hq := fun (w : World) => Lib.run_eql_slice_nil w 35 3 none 0 kap 0 0 Try.underlying35
    simp only [Option.isNone] at hq
    go_enter Try.func12, Try.ntmps12
    go_wp2_with fail
    go_ret
    exact ⟨_, rfl, World.ownsRow_nil _ _ _ _, Below.refl _ _⟩
  · have hq := fun (w : World) => Lib.run_eql_slice_nil w 35 3 (some ad) n kap 0 0 Try.underlying35
    simp only [Option.isNone] at hq
    have HR := Kept.mk (h.alloc hB (.cells #[] 3))
    have HO := Kept.mk (World.ownsRow_lit (base := w.heap.size) (e := 3) (size := 1) w #[] 0 (Nat.le_refl _) (by unfold maxLen; omega) rfl)
    have HL := Kept.mk h1
    clear h h1 hB
    go_enter Try.func12, Try.ntmps12
    go_wp2_with (at_builtin; refine wpList_append_any _ rfl _ _ _ rfl w.heap.size 3 i0 _ 1 8 Try.underlying35 hi0 hz0 hz1 hz2 rfl (by omega) _ 0 _ rfl HO.out B (some ad) n kap xs rfl HR.out HL.out (by unfold maxLen; omega) (by omega) (by simp) ?_; intro v' w2 ho hg hat)
    go_ret
    refine ⟨v', rfl, by simpa using ho, ((Below.refl _ _).alloc (Nat.le_refl _) _).grown hg (by simp) (fun k hk => ?_)⟩
    exact (HO.out.lt k hk).1
set_option maxHeartbeats 1000000 in
theorem cloneF_c (A : Option Addr) (n kap : Nat) (xs : List Value) (w : World) (B : Nat) (h : Reads w B 4 A n xs) (hB : B ≤ w.heap.size) (h1 : ∀ u ∈ xs, u.oneCell' = true) (hn : n ≤ 1000000) :
    Calls Try.prog 15 #[.slice A n kap] w (Clones w 37 4 n xs) := by
  obtain ⟨i0, hi0, hz0, hz1, hz2⟩ := info_parts infoF
  rcases A with _ | ad
  · obtain ⟨rfl, rfl⟩ := reads_nil h
    have hq := fun (w : World) => Lib.run_eql_slice_nil w 23 37 none 0 kap 0 0 Try.underlying23
    simp only [Option.isNone] at hq
    go_enter Try.func15, Try.ntmps15
    go_wp2_with fail
    go_ret
    exact ⟨_, rfl, World.ownsRow_nil _ _ _ _, Below.refl _ _⟩
  · have hq := fun (w : World) => Lib.run_eql_slice_nil w 23 37 (some ad) n kap 0 0 Try.underlying23
    simp only [Option.isNone] at hq
    have HR := Kept.mk (h.alloc hB (.cells #[] 37))
    have HO := Kept.mk (World.ownsRow_lit (base := w.heap.size) (e := 37) (size := 4) w #[] 0 (Nat.le_refl _) (by unfold maxLen; omega) rfl)
    have HL := Kept.mk h1
    clear h h1 hB
    go_enter Try.func15, Try.ntmps15
    go_wp2_with (at_builtin; refine wpList_append_any _ rfl _ _ _ rfl w.heap.size 37 i0 _ 4 48 Try.underlying23 hi0 hz0 hz1 hz2 rfl (by omega) _ 0 _ rfl HO.out B (some ad) n kap xs rfl HR.out HL.out (by unfold maxLen; omega) (by omega) (by simp) ?_; intro v' w2 ho hg hat)
    go_ret
    refine ⟨v', rfl, by simpa using ho, ((Below.refl _ _).alloc (Nat.le_refl _) _).grown hg (by simp) (fun k hk => ?_)⟩
    exact (HO.out.lt k hk).1
def fcells (l : List PFlow) : List Value := l.flatMap fcell
theorem fcells_len (l : List PFlow) : (fcells l).length = l.length * 4 := flat_len fcell_len l
theorem fcells_cons (m : PFlow) (l : List PFlow) : fcells (m :: l) = .slice m.A m.ls.length m.kap :: .bool m.b :: .int .i64 m.d.n :: .int .i64 m.d.d :: fcells l := rfl
theorem fcells_app (l m : List PFlow) : fcells (l ++ m) = fcells l ++ fcells m := by unfold fcells; rw [List.flatMap_append]
theorem fcells_one {l : List PFlow} : ∀ u ∈ fcells l, u.oneCell' = true := by
  intro u hu
  simp only [fcells, List.mem_flatMap, fcell] at hu
  obtain ⟨m, _, hm⟩ := hu
  simp at hm
  rcases hm with rfl | rfl | rfl | rfl <;> rfl
theorem zero37 (w : World) : (zeroValue 37).run Try.prog w = .ok (.agg #[.slice none 0 0, .bool false, .int .i64 0, .int .i64 0]) w := by kernel_rfl
def zeros4 : List Value := [.slice none 0 0, .bool false, .int .i64 0, .int .i64 0]
theorem run_clear37 (w : World) (g o c : Nat) (ty : TypeId) (hc : ∀ j, j < 4 → (w.cell? ⟨g, o + j, none⟩).isSome = true) (hf : ∀ j, j < 4 → w.frozen? ⟨g, o + j, none⟩ = false) :
    (Builtin.clear_ #[23] ty #[.slice (some ⟨g, o, none⟩) 1 c]).run Try.prog w = .ok (.tuple #[]) (w.setCells g o zeros4) := by
  have hst := run_storeCells_cells (P := Try.prog) g o zeros4 0 w (by simpa [zeros4] using hc) (by simpa [zeros4] using hf) (by intro v hv'; simp [zeros4] at hv'; rcases hv' with rfl | rfl | rfl <;> rfl)
  simp only [Nat.add_zero] at hst
  have hzc : (Builtin.zeroCells (Value.agg #[.slice none 0 0, .bool false, .int .i64 0, .int .i64 0]).cells 1).toList = zeros4 := by kernel_rfl
  simp [Builtin.clear_, run_underlying Try.underlying23, zero37, hzc, hst]
theorem onlyCells {S : Nat → Prop} {w w1 : World} {g o : Nat} {vs : List Value} (h : OnlyP S w w1) (hg : S g) : OnlyP S w (w1.setCells g o vs) := by
  induction vs generalizing w1 o with
  | nil => exact h
  | cons v r ih => exact ih (h.set (p := ⟨g, o, none⟩) (.inl hg) v)
theorem fcells_drop (l : List PFlow) (i : Nat) : (fcells l).drop (i * 4) = fcells (l.drop i) := by
  induction l generalizing i with
  | nil => simp [fcells]
  | cons m l ih =>
    cases i with
    | zero => simp
    | succ i => rw [show (i + 1) * 4 = i * 4 + 4 by omega]; simpa [fcells_cons] using ih i
theorem fcells_take (l : List PFlow) (i : Nat) : (fcells l).take (i * 4) = fcells (l.take i) := by
  induction l generalizing i with
  | nil => simp [fcells]
  | cons m l ih =>
    cases i with
    | zero => simp [fcells]
    | succ i => rw [show (i + 1) * 4 = i * 4 + 4 by omega]; simpa [fcells_cons] using ih i
/-- What the two writes leave in the row. -/
theorem del_reads {w : World} {g kap i : Nat} {fl : List PFlow} (hi : i < fl.length) (hk : fl.length ≤ kap) (hc : ∀ j u, (fcells fl)[j]? = some u → w.cell? ⟨g, j, none⟩ = some u) (hs : ∀ j, j < fl.length * 4 → (w.cell? ⟨g, j, none⟩).isSome = true) :
    Reads ((w.setCells g (0 + i * 4) (fcells (fl.drop (i + 1)))).setCells g ((fl.length - 1) * 4) zeros4) (g + 1) 4 (some ⟨g, 0, none⟩) (fl.length - 1) (fcells (fl.eraseIdx i)) := by
  have hle : (fl.eraseIdx i).length = fl.length - 1 := by rw [List.length_eraseIdx, if_pos hi]
  refine ⟨by rw [fcells_len, hle], fun hn => ⟨_, rfl, by simp, fun j u hu => ?_⟩⟩
  have hj : j < (fl.length - 1) * 4 := by
    have := (List.getElem?_eq_some_iff.1 hu).1
    rwa [fcells_len, hle] at this
  have hadd : (⟨g, 0, none⟩ : Addr).add j = ⟨g, j, none⟩ := by unfold Addr.add; split <;> simp_all
  rw [hadd, World.cell?_setCells_out g zeros4 _ _ _ (fun _ _ => Or.inl hj)]
  rw [List.eraseIdx_eq_take_drop_succ, fcells_app] at hu
  have hlt : (fcells (fl.take i)).length = i * 4 := by rw [fcells_len, List.length_take]; omega
  rcases Nat.lt_or_ge j (i * 4) with h1 | h1
  · rw [World.cell?_setCells_out g _ _ _ _ (fun _ _ => Or.inl (by simp; omega))]
    rw [List.getElem?_append_left (by omega), ← fcells_take, List.getElem?_take_of_lt h1] at hu
    exact hc j u hu
  · rw [List.getElem?_append_right (by omega), hlt] at hu
    have hj2 := (List.getElem?_eq_some_iff.1 hu).1
    have := World.cell?_setCells_in g (fcells (fl.drop (i + 1))) (0 + i * 4) w (fun t ht => hs _ (by rw [fcells_len, List.length_drop] at ht; omega)) (j - i * 4) hj2
    rw [show 0 + i * 4 + (j - i * 4) = j by omega] at this
    rw [this]
    rw [List.getElem?_eq_getElem hj2] at hu
    exact hu
set_option maxRecDepth 100000 in
set_option maxHeartbeats 4000000 in
theorem del_c (fl : List PFlow) (g kap i : Nat) (w : World) (B : Nat) (ho : w.ownsRow B 37 4 (.slice (some ⟨g, 0, none⟩) fl.length kap) fl.length (fcells fl)) (hi : i < fl.length) (hn : fl.length ≤ 1000000) :
    Calls Try.prog 14 #[.slice (some ⟨g, 0, none⟩) fl.length kap, .int .i64 i, .int .i64 ((i : Int) + 1)] w fun e w' => e = .returned (.slice (some ⟨g, 0, none⟩) (fl.length - 1) kap) ∧ Reads w' (g + 1) 4 (some ⟨g, 0, none⟩) (fl.length - 1) (fcells (fl.eraseIdx i)) ∧ OnlyP (fun x => x = g) w w' := by
  obtain ⟨i0, hi0, hz0, hz1, hz2⟩ := info_parts infoF
  obtain ⟨cur, hblk, hk, hkm, hcs, hcur⟩ : ∃ cur, Blk w g 37 cur ∧ fl.length ≤ kap ∧ kap ≤ maxLen ∧ cur.size = kap * 4 ∧ cur.toList.take (fl.length * 4) = fcells fl := by
    rcases ho.2 with ⟨h2, _⟩ | ⟨g', cap, cur, h1, h2, h3, h4, h5, h6, h7⟩
    · cases h2
    · injection h1 with h8 h9 h10
      injection h8 with h8
      injection h8 with h8
      subst h8 h10
      exact ⟨cur, h3, h4, h5, h6, h7⟩
  have hcell : ∀ j u, (fcells fl)[j]? = some u → w.cell? ⟨g, j, none⟩ = some u := fun j u hu => by
    refine hblk.cell j ?_
    have hj := (List.getElem?_eq_some_iff.1 hu).1
    rw [fcells_len] at hj
    rw [← hcur, List.getElem?_take_of_lt hj] at hu
    simpa using hu
  have hsome : ∀ j, j < kap * 4 → (w.cell? ⟨g, j, none⟩).isSome = true := fun j hj => by
    rw [hblk.cell j (Array.getElem?_eq_getElem (by omega))]; rfl
  have hfree : ∀ j, w.frozen? ⟨g, j, none⟩ = false := fun j => hblk.free j
  unfold maxLen at hkm
  have HD := Kept.mk (del_reads (w := w.drew) hi hk hcell (fun j hj => hsome j (by omega)))
  have s1 : Kept ((fcells (fl.drop (i + 1))).length = (fl.length - (i + 1)) * 4) := ⟨by rw [fcells_len, List.length_drop]⟩
  have s2 : Kept (∀ u ∈ fcells (fl.drop (i + 1)), u.oneCell' = true) := ⟨fcells_one⟩
  have s3 : Kept (∀ t, t < (fcells (fl.drop (i + 1))).length → (w.drew.cell? ⟨g, 0 + i * 4 + t, none⟩).isSome = true ∧ w.drew.frozen? ⟨g, 0 + i * 4 + t, none⟩ = false) := ⟨fun t ht => by
    rw [s1.out] at ht
    exact ⟨hsome _ (by omega), hfree _⟩⟩
  obtain ⟨A, hA, HS⟩ : ∃ A : Addr, (if kap = i + 1 then (some ⟨g, 0, none⟩ : Option Addr) else some ⟨g, (i + 1) * 4, none⟩) = some A ∧ Kept (∀ t u, (fcells (fl.drop (i + 1)))[t]? = some u → w.drew.cell? (A.add t) = some u) := by
    by_cases h : kap = i + 1
    · refine ⟨⟨g, 0, none⟩, by simp [h], ⟨fun t u hu => ?_⟩⟩
      have h0 := (List.getElem?_eq_some_iff.1 hu).1
      rw [s1.out] at h0
      omega
    · refine ⟨⟨g, (i + 1) * 4, none⟩, by simp [h], ⟨fun t u hu => ?_⟩⟩
      have hadd : (⟨g, (i + 1) * 4, none⟩ : Addr).add t = ⟨g, (i + 1) * 4 + t, none⟩ := by unfold Addr.add; split <;> simp_all
      rw [hadd]
      rw [← fcells_drop, List.getElem?_drop] at hu
      exact hcell _ _ hu
  obtain ⟨W1, hW1⟩ : ∃ W1, W1 = w.drew.setCells g (0 + i * 4) (fcells (fl.drop (i + 1))) := ⟨_, rfl⟩
  have HW := Kept.mk hW1
  have HO1 : Kept (OnlyP (fun x => x = g) w W1) := ⟨by rw [hW1]; exact onlyCells (OnlyP.refl _ _).drew rfl⟩
  have hcl : ∀ ty c, (Builtin.clear_ #[23] ty #[.slice (some ⟨g, (fl.length - 1) * 4, none⟩) 1 c]).run Try.prog W1 = .ok (.tuple #[]) (W1.setCells g ((fl.length - 1) * 4) zeros4) := fun ty c =>
    run_clear37 W1 g _ c ty (fun j hj => by
      have h0 : (w.drew.cell? ⟨g, (fl.length - 1) * 4 + j, none⟩).isSome = true := hsome _ (by omega)
      rw [hW1, World.cell?_setCells_out g _ _ _ _ (fun _ _ => Or.inr (by rw [s1.out]; simp; omega))]; exact h0) (fun j hj => by rw [hW1, World.frozen?_setCells]; exact hfree _)
  have hcl2 : ∀ ty c, (Builtin.clear_ #[23] ty #[.slice (some ⟨g, (i + (fl.length - (i + 1))) * 4, none⟩) (fl.length - (i + (fl.length - (i + 1)))) c]).run Try.prog W1 = .ok (.tuple #[]) (W1.setCells g ((fl.length - 1) * 4) zeros4) := fun ty c => by
    rw [show i + (fl.length - (i + 1)) = fl.length - 1 by omega, show fl.length - (fl.length - 1) = 1 by omega]
    exact hcl ty c
  clear hW1 hcell hsome hfree hcur hcs hblk ho hcl
  have hic : i ≤ kap := by omega
  have hjc : i + 1 ≤ kap := by omega
  have hx1 : (0 : Int) ≤ (i : Int) + 1 := by omega
  have hx2 : (i : Int) + 1 ≤ (fl.length : Int) := by omega
  go_enter Try.func14, Try.ntmps14
  go_wp2_with fail
  go_region_law (refine step_append_room rfl (.tmp 22) (.tmp 25) 23 rfl 37 i0 4 Try.underlying23 hi0 hz1 g 0 i kap (by simp [Act.eval, Act.put]) A (fl.length - (i + 1)) (kap - (i + 1)) (fcells (fl.drop (i + 1))) (by simp [Act.eval, Act.put]) s1.out HS.out s2.out (by omega) s3.out ?_; rw [← HW.out])
  go_wp2_with fail
  go_ret
  refine ⟨?_, ?_, onlyCells HO1.out rfl⟩
  · rw [show fl.length - 1 = i + (fl.length - (i + 1)) by omega]; rfl
  · rw [HW.out]; exact HD.out
/-- The boxes of MinFunc: the result, the least so far. -/
structure MF (w W : World) (r : Rq) : Prop where
  z : Blk W w.heap.size 32 #[.int .i64 0, .int .i64 0]
  m : Blk W (w.heap.size + 1) 32 #[.int .i64 r.n, .int .i64 r.d]
  blw : Below w.heap.size w W
theorem MF.new_ {w W W' : World} {r : Rq} (h : MF w W r) (hb : Below W.heap.size W W') : MF w W' r := ⟨h.z.new_ hb, h.m.new_ hb, join h.blw hb⟩
theorem MF.put {w W : World} {r : Rq} (h : MF w W r) (t : Rq) : MF w ((W.setCell ⟨w.heap.size + 1, 0, none⟩ (.int .i64 t.n)).setCell ⟨w.heap.size + 1, 1, none⟩ (.int .i64 t.d)) t :=
  ⟨(h.z.far (by simp only; omega) _).far (by simp only; omega) _, (h.m.set_ 0 _).to 1 _ rfl, (h.blw.setCell (by simp only; omega) _).setCell (by simp only; omega) _⟩
theorem MF.fin {w W : World} {r : Rq} (h : MF w W r) (x y : Value) : ∃ W', W' = (W.setCell ⟨w.heap.size, 0, none⟩ x).setCell ⟨w.heap.size, 1, none⟩ y ∧ W'.cell? ⟨w.heap.size, 0, none⟩ = some x ∧ W'.cell? ⟨w.heap.size, 1, none⟩ = some y ∧ Below w.heap.size w W' := by
  have hb : Blk ((W.setCell ⟨w.heap.size, 0, none⟩ x).setCell ⟨w.heap.size, 1, none⟩ y) w.heap.size 32 #[x, y] := (h.z.set_ 0 x).to 1 y rfl
  exact ⟨_, rfl, hb.cell 0 rfl, hb.cell 1 rfl, (h.blw.setCell (Nat.le_refl _) _).setCell (Nat.le_refl _) _⟩
theorem mf_keep {w W : World} {r x : Rq} {l : List Rq} {b off k : Nat} (h : MF w W r) (hr : RowsAt w w.heap.size 2 ccell (some ⟨b, off, none⟩) l) (hx : l[k]? = some x) : W.cell? ⟨b, off + k * 2, none⟩ = some (.int .i64 x.n) ∧ W.cell? ⟨b, off + k * 2 + 1, none⟩ = some (.int .i64 x.d) ∧ W.cell? ⟨w.heap.size + 1, 0, none⟩ = some (.int .i64 r.n) ∧ W.cell? ⟨w.heap.size + 1, 1, none⟩ = some (.int .i64 r.d) := by
  obtain ⟨y, b', o', hy, he, -, -, hc⟩ := (hr.new_ h.blw).at_ (List.getElem?_eq_some_iff.1 hx).1
  rw [hx] at hy
  injection hy with hy
  subst hy
  injection he with he
  injection he with e1 e2
  subst e1 e2
  exact ⟨hc 0 _ rfl, hc 1 _ rfl, h.m.cell 0 rfl, h.m.cell 1 rfl⟩
set_option maxRecDepth 100000 in
set_option maxHeartbeats 4000000 in
theorem minf_c (l : List Rq) (A : Option Addr) (kap : Nat) (w : World) (h : RowsAt w w.heap.size 2 ccell A l) (h0 : 0 < l.length) (h6 : l.length ≤ 1000000) (hok : ∀ r ∈ l, okQ r = true) :
    Calls Try.prog 16 #[.slice A l.length kap, .func (.func 9) #[] #[]] w fun e w' => ∃ r ∈ l, e = .returned (rqv r) ∧ (∀ x ∈ l, val r ≤ val x) ∧ Below w.heap.size w w' := by
  have HRW0 := Kept.mk h
  have HOK := Kept.mk hok
  have hl1 : decide ((l.length : Int) < 1) = false := decide_eq_false (by omega)
  obtain ⟨r0, b, off, hr0, rfl, -, hb0, hc0⟩ := h.at_ h0
  have HRW : Kept (RowsAt w w.heap.size 2 ccell (some ⟨b, off, none⟩) l) := HRW0
  have c0 := hc0 0 (.int .i64 r0.n) rfl
  have c1 := hc0 1 (.int .i64 r0.d) rfl
  simp only [Nat.zero_mul, Nat.add_zero] at c0 c1
  have HR0 := Kept.mk hr0
  have HZ : Kept (Blk (w.alloc (.cells #[.int .i64 0, .int .i64 0] 32)) w.heap.size 32 #[.int .i64 0, .int .i64 0]) := ⟨Blk.new _ _ _⟩
  clear h hok hc0 hr0 HRW0
  go_enter Try.func16, Try.ntmps16
  go_upto_region 4 with fail
  obtain ⟨U, hU, HU⟩ : ∃ U, U = (w.alloc (.cells #[.int .i64 0, .int .i64 0] 32)).alloc (.cells #[.int .i64 r0.n, .int .i64 r0.d] 32) ∧ Kept (MF w U r0) := ⟨_, rfl, ⟨HZ.out.alloc _, by have := Blk.new (w.alloc (.cells #[.int .i64 0, .int .i64 0] 32)) 32 #[.int .i64 r0.n, .int .i64 r0.d]; rwa [World.size_alloc] at this, by go_grown⟩⟩
  rw [← hU]
  clear hU HZ c0 c1
  go_wp2_with fail
  go_loopw [6] (fun v wr => ∃ k : Nat, 1 ≤ k ∧ k ≤ l.length ∧ v = .int .i64 k ∧ ∃ r : Rq, Kept (MF w wr r) ∧ Kept (r ∈ l) ∧ Kept (∀ x ∈ l.take k, val r ≤ val x)) (fun v _ => l.length - (intOf v).toNat)
  case atStart => exact ⟨1, Nat.le_refl _, h0, rfl, r0, HU, ⟨List.mem_of_getElem? HR0.out⟩, ⟨fun x hx => by
    rw [take_next (k := 0) HR0.out] at hx
    simp at hx
    subst hx
    exact Rat.le_refl⟩⟩
  case round =>
    clear HU
    obtain ⟨k, hk1, hk, rfl, r, HM, HRM, HLE⟩ := hrel
    have m0 := HM.out.m.cell 0 (v := .int .i64 r.n) rfl
    have m1 := HM.out.m.cell 1 (v := .int .i64 r.d) rfl
    have ml := HM.out.m.lt
    by_cases hlt : k < l.length
    · obtain ⟨x, hx⟩ := get_some hlt
      have HXG := Kept.mk hx
      have hxo := HOK.out x (List.mem_of_getElem? hx)
      have hro := HOK.out r HRM.out
      have CM := fun w => cmp_c x r w (okQ_R64 hxo).1 (okQ_R64 hxo).2 (okQ_R64 hro).1 (okQ_R64 hro).2
      unfold rqv at CM
      obtain ⟨z, hz⟩ : ∃ z, cmpQ x r = z := ⟨_, rfl⟩
      rw [hz] at CM
      have HX1 : Kept (MF w (wr.drewN 1) r) := ⟨HM.out.new_ (dN (Below.refl _ _) 1)⟩
      have HCV : Kept (z < 0 ↔ val x < val r) := ⟨by rw [← hz]; exact (cmpQ_val hxo hro).1⟩
      clear hx hz
      go_upto_region 7 with fail
      refine wp_region_held_drew (S := fun w' => w'.cell? ⟨b, off + k * 2, none⟩ = some (.int .i64 x.n) ∧ w'.cell? ⟨b, off + k * 2 + 1, none⟩ = some (.int .i64 x.d) ∧ w'.cell? ⟨w.heap.size + 1, 0, none⟩ = some (.int .i64 r.n) ∧ w'.cell? ⟨w.heap.size + 1, 1, none⟩ = some (.int .i64 r.d)) (by kernel_rfl) (by (try dsimp only); (first | exact mf_keep HX2.out HRW.out HXG.out | exact mf_keep HX1.out HRW.out HXG.out)) (fun hHeld => ?_)
      refine wpAnyH_take (i := 0) (v := ?_) rfl (by kernel_rfl) (by kernel_rfl) (by kernel_rfl) (fun _ _ _ h => h) (Or.inl ⟨by rfl, ?_⟩) (by assumption) ?_; rotate_left; (intro w hSw; (try dsimp only at hSw); go_simp; try (with_reducible rfl)); try simp only [Act.put, List.setIfInBounds_toArray, List.set_cons_zero, List.set_cons_succ, List.getElem_toArray, List.getElem_cons_succ, List.getElem_cons_zero]
      refine wpAnyH_take (i := 1) (v := ?_) rfl (by kernel_rfl) (by kernel_rfl) (by kernel_rfl) (fun _ _ _ h => h) (Or.inl ⟨by rfl, ?_⟩) (by assumption) ?_; rotate_left; (intro w hSw; (try dsimp only at hSw); go_simp; try (with_reducible rfl)); try simp only [Act.put, List.setIfInBounds_toArray, List.set_cons_zero, List.set_cons_succ, List.getElem_toArray, List.getElem_cons_succ, List.getElem_cons_zero]
      refine wpAnyH_take (i := 2) (v := ?_) rfl (by kernel_rfl) (by kernel_rfl) (by kernel_rfl) (fun _ _ _ h => h) (Or.inl ⟨by rfl, ?_⟩) (by assumption) ?_; rotate_left; (intro w hSw; (try dsimp only at hSw); go_simp; try (with_reducible rfl)); try simp only [Act.put, List.setIfInBounds_toArray, List.set_cons_zero, List.set_cons_succ, List.getElem_toArray, List.getElem_cons_succ, List.getElem_cons_zero]
      refine wpAnyH_take (i := 3) (v := ?_) rfl (by kernel_rfl) (by kernel_rfl) (by kernel_rfl) (fun _ _ _ h => h) (Or.inl ⟨by rfl, ?_⟩) (by assumption) ?_; rotate_left; (intro w hSw; (try dsimp only at hSw); go_simp; try (with_reducible rfl)); try simp only [Act.put, List.setIfInBounds_toArray, List.set_cons_zero, List.set_cons_succ, List.getElem_toArray, List.getElem_cons_succ, List.getElem_cons_zero]
      refine wpAnyH_take (i := 4) (v := ?_) rfl (by kernel_rfl) (by kernel_rfl) (by kernel_rfl) (fun _ _ _ h => h) (Or.inl ⟨by rfl, ?_⟩) (by assumption) ?_; rotate_left; (intro w hSw; (try dsimp only at hSw); go_simp; try (with_reducible rfl)); try simp only [Act.put, List.setIfInBounds_toArray, List.set_cons_zero, List.set_cons_succ, List.getElem_toArray, List.getElem_cons_succ, List.getElem_cons_zero]
      refine wpAnyH_take (i := 5) (v := ?_) rfl (by kernel_rfl) (by kernel_rfl) (by kernel_rfl) (fun _ _ _ h => h) (Or.inl ⟨by rfl, ?_⟩) (by assumption) ?_; rotate_left; (intro w hSw; (try dsimp only at hSw); go_simp; try (with_reducible rfl)); try simp only [Act.put, List.setIfInBounds_toArray, List.set_cons_zero, List.set_cons_succ, List.getElem_toArray, List.getElem_cons_succ, List.getElem_cons_zero]
      refine wpAnyH_ready (rs := [6]) (by kernel_rfl) (by simp) ?_; refine AllReadyH.cons rfl (fun K hK => ?_) AllReadyH.nil; go_simp
      refine (CM _).mono ?_; rintro e wq ⟨rfl, hbq⟩; have HX2 : Kept (MF w wq r) := ⟨HX1.out.new_ hbq⟩; clear hbq
      try go_wp2_with fail
      refine hK.out _ _ (by (try dsimp only); (first | exact mf_keep HX2.out HRW.out HXG.out | exact mf_keep HX1.out HRW.out HXG.out)) (fun hHeld => ?_); clear hK K; try simp only [Act.put, List.setIfInBounds_toArray, List.set_cons_zero, List.set_cons_succ, List.getElem_toArray, List.getElem_cons_succ, List.getElem_cons_zero]
      refine wpAnyH_take (i := 7) (v := ?_) rfl (by kernel_rfl) (by kernel_rfl) (by kernel_rfl) (fun _ _ _ h => h) (Or.inl ⟨by rfl, ?_⟩) (by assumption) ?_; rotate_left; (intro w hSw; (try dsimp only at hSw); go_simp; try (with_reducible rfl)); try simp only [Act.put, List.setIfInBounds_toArray, List.set_cons_zero, List.set_cons_succ, List.getElem_toArray, List.getElem_cons_succ, List.getElem_cons_zero]
      refine wpAnyH_done (by kernel_rfl) ?_ _
      obtain ⟨x0, x1, -, -⟩ := mf_keep HX2.out HRW.out HXG.out
      have f0 := HX2.out.m.free 0
      have f1 := HX2.out.m.free 1
      have y0 := HX2.out.m.cell 0 (v := .int .i64 r.n) rfl
      have y1 := HX2.out.m.cell 1 (v := .int .i64 r.d) rfl
      have yl := HX2.out.m.lt
      by_cases hz0 : z < 0
      · have HLT := Kept.mk (HCV.out.1 hz0)
        go_wp2_with fail
        go_roundw
        case rel => exact ⟨k + 1, by omega, by omega, by go_num, x, ⟨HX2.out.put x⟩, ⟨List.mem_of_getElem? HXG.out⟩, ⟨fun y hy => by
          rw [take_next HXG.out, List.mem_append, List.mem_singleton] at hy
          rcases hy with hy | rfl
          · exact Rat.le_trans (Rat.le_of_lt HLT.out) (HLE.out y hy)
          · exact Rat.le_refl⟩⟩
        case measure => simp [intOf]; omega
      · have HLT := Kept.mk (Rat.not_lt.1 (fun h => hz0 (HCV.out.2 h)))
        have hz1 : decide (z < 0) = false := decide_eq_false hz0
        go_wp2_with fail
        go_roundw
        case rel => exact ⟨k + 1, by omega, by omega, by go_num, r, HX2, HRM, ⟨fun y hy => by
          rw [take_next HXG.out, List.mem_append, List.mem_singleton] at hy
          rcases hy with hy | rfl
          · exact HLE.out y hy
          · exact HLT.out⟩⟩
        case measure => simp [intOf]; omega
    · obtain rfl : k = l.length := by omega
      have HLA : Kept (∀ x ∈ l, val r ≤ val x) := ⟨by have := HLE.out; rwa [List.take_length] at this⟩
      have z0 := HM.out.z.cell 0 (v := .int .i64 0) rfl
      have z1 := HM.out.z.cell 1 (v := .int .i64 0) rfl
      have zf0 := HM.out.z.free 0
      have zf1 := HM.out.z.free 1
      have zl := HM.out.z.lt
      clear hlt HLE
      go_wp2_with fail
      obtain ⟨W9, hW9, s0, s1, hb⟩ := HM.out.fin (.int .i64 r.n) (.int .i64 r.d)
      rw [← hW9]
      clear hW9
      exact bodyPost_ret (v := .agg #[.int .i64 r.n, .int .i64 r.d]) (by simp [results, Try.results16, go_sem, s0, s1]) rfl ⟨r, HRM.out, rfl, HLA.out, hb⟩
set_option maxHeartbeats 1000000 in
theorem eqv_c (x y : Rq) (w : World) (hx : R64 x.n ∧ R64 x.d) (hy : R64 y.n ∧ R64 y.d) (hc : cmpQ x y = 0) : Calls Try.prog 41 #[.agg #[.int .i64 x.n, .int .i64 x.d], .agg #[.int .i64 y.n, .int .i64 y.d]] w fun e w' => e = .returned (.bool true) ∧ Below w.heap.size w w' := by
  have CM := fun w => cmp_c x y w hx.1 hx.2 hy.1 hy.2
  rw [hc] at CM
  unfold rqv at CM
  clear hc
  have HB2 := Kept.mk (B2.start w x y)
  obtain ⟨⟨k0, k1⟩, m0, m1⟩ := HB2.out.cells
  go_enter Try.func41, Try.ntmps41
  go_wp2_with (go_at_call 9; refine (CM _).mono ?_; rintro e w1 ⟨rfl, hb1⟩; have HJ := Kept.mk (join HB2.out.blw hb1); clear hb1)
  go_ret
  exact ⟨rfl, HJ.out⟩
set_option maxHeartbeats 4000000 in
theorem eqf_c (l m : List Rq) (A A' : Option Addr) (kap kap' : Nat) (w : World) (hl : RowsAt w w.heap.size 2 ccell A l) (hm : RowsAt w w.heap.size 2 ccell A' m) (he : l.length = m.length) (hn : l.length ≤ 1000000) (hl6 : ∀ r ∈ l, R64 r.n ∧ R64 r.d) (hm6 : ∀ r ∈ m, R64 r.n ∧ R64 r.d) (hc : ∀ (i : Nat) (x y : Rq), l[i]? = some x → m[i]? = some y → cmpQ x y = 0) :
    Calls Try.prog 40 #[.slice A l.length kap, .slice A' m.length kap', .func (.func 41) #[] #[]] w fun e w' => e = .returned (.bool true) ∧ Below w.heap.size w w' := by
  have HL := Kept.mk hl
  have HM := Kept.mk hm
  have HL6 := Kept.mk hl6
  have HM6 := Kept.mk hm6
  have HC := Kept.mk hc
  have hle : l.length ≤ m.length := by omega
  have hle2 : m.length ≤ l.length := by omega
  have hq0 : ((l.length : Int) != (m.length : Int)) = false := by simp; omega
  clear hl hm he hl6 hm6 hc
  go_enter Try.func40, Try.ntmps40
  go_wp2_with fail
  go_loopw [17] (fun v17 wr => ∃ k : Nat, k ≤ l.length ∧ v17 = .int .i64 k ∧ Kept (Below w.heap.size w wr)) (fun v17 _ => l.length - (intOf v17).toNat)
  case atStart => exact ⟨0, by omega, rfl, ⟨Below.refl _ _⟩⟩
  case round =>
    obtain ⟨k, hk, rfl, HD⟩ := hrel
    by_cases hlt : k < l.length
    · obtain ⟨x, b, off, hx, rfl, -, hb, hcx⟩ := (HL.out.new_ HD.out).at_ hlt
      obtain ⟨y, b', off', hy, rfl, -, hb', hcy⟩ := (HM.out.new_ HD.out).at_ (k := k) (by omega)
      have c0 := hcx 0 (.int .i64 x.n) rfl
      have c1 := hcx 1 (.int .i64 x.d) rfl
      have d0 := hcy 0 (.int .i64 y.n) rfl
      have d1 := hcy 1 (.int .i64 y.d) rfl
      simp only [Nat.add_zero] at c0 d0
      have EV := fun w => eqv_c x y w (HL6.out x (List.mem_of_getElem? hx)) (HM6.out y (List.mem_of_getElem? hy)) (HC.out k x y hx hy)
      have HZ := HD.out.size
      clear hx hy hcx hcy
      go_wp2_with fail
      refine (EV _).mono ?_
      rintro e w1 ⟨rfl, hb1⟩
      have HD1 : Kept (Below w.heap.size w w1) := ⟨join ((HD.out.alloc HZ _).alloc (by simp only [World.size_alloc]; omega) _) hb1⟩
      clear hb1
      go_wp2_with fail
      go_roundw
      case rel => exact ⟨k + 1, by omega, by go_num, HD1⟩
      case measure => simp [intOf]; omega
    · obtain rfl : k = l.length := by omega
      go_wp2_with fail
      go_ret
      exact ⟨rfl, HD.out⟩
set_option maxRecDepth 100000 in
set_option maxHeartbeats 1000000 in
theorem equal_c (l m : List Rq) (A A' : Option Addr) (kap kap' : Nat) (w : World) (hl : RowsAt w w.heap.size 2 ccell A l) (hm : RowsAt w w.heap.size 2 ccell A' m) (he : l.length = m.length) (hn : l.length ≤ 1000000) (hl6 : ∀ r ∈ l, R64 r.n ∧ R64 r.d) (hm6 : ∀ r ∈ m, R64 r.n ∧ R64 r.d) (hc : ∀ (i : Nat) (x y : Rq), l[i]? = some x → m[i]? = some y → cmpQ x y = 0) :
    Calls Try.prog 13 #[.slice A l.length kap, .slice A' m.length kap'] w fun e w' => e = .returned (.bool true) ∧ Below w.heap.size w w' := by
  have HE := Kept.mk (eqf_c l m A A' kap kap' w hl hm he hn hl6 hm6 hc)
  clear hl hm hl6 hm6 hc he
  go_enter Try.func13, Try.ntmps13
  go_wp2_with (go_at_call 40; refine HE.out.mono ?_; rintro e w1 ⟨rfl, hb1⟩; have HJ := Kept.mk hb1; clear hb1)
  go_ret
  exact ⟨rfl, HJ.out⟩
end Go.Proofs.Ytjalegdfofogcaa
