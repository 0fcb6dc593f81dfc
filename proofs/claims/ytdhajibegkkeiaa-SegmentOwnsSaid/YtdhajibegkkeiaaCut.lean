/- Segment: the walk of Cut. -/
import Derived.Test.YtdhajibegkkeiaaWalks
import Derived.Test.YtdhajibegkkeiaaMem
namespace Go.Proofs.Ytdhajibegkkeiaa
set_option linter.unusedVariables false
set_option linter.unusedSimpArgs false
open Go.RowKit
def pval (p : PSeg) : Value := .agg #[.int .i64 p.s.off, .slice p.A p.s.data.length p.kap, .bool p.s.last]
theorem Reads.take_ {w : World} {B n : Nat} {A : Option Addr} {xs : List Value} (h : Reads w B 1 A n xs) {k : Nat} (hk : k ≤ n) : Reads w B 1 A k (xs.take k) :=
  ⟨by rw [List.length_take, h.1]; omega, fun hn => by
    obtain ⟨ad, e, hb, hc⟩ := h.2 (by omega)
    exact ⟨ad, e, hb, fun j u hu => hc j u (by
      have hj : j < k := by have := (List.getElem?_eq_some_iff.1 hu).1; simp at this; omega
      rw [List.getElem?_take_of_lt hj] at hu; exact hu)⟩⟩
theorem boxes3 {w w1 : World} {a b c : Array Value} {t : TypeId} (hb : Below (((w.alloc (.cells a t)).alloc (.cells b t)).alloc (.cells c t)).heap.size (((w.alloc (.cells a t)).alloc (.cells b t)).alloc (.cells c t)) w1) :
    Blk w1 w.heap.size t a ∧ Blk w1 (w.heap.size + 1) t b ∧ Blk w1 (w.heap.size + 1 + 1) t c := by
  have h1 := ((Blk.new w t a).alloc (.cells b t)).alloc (.cells c t)
  have h2 := (Blk.new (w.alloc (.cells a t)) t b).alloc (.cells c t)
  have h3 := Blk.new ((w.alloc (.cells a t)).alloc (.cells b t)) t c
  simp only [World.size_alloc] at h2 h3
  exact ⟨h1.new_ hb, h2.new_ hb, h3.new_ hb⟩
theorem size3 {w w1 : World} {a b c : Obj} (hb : Below (((w.alloc a).alloc b).alloc c).heap.size (((w.alloc a).alloc b).alloc c) w1) : w.heap.size + 1 + 1 + 1 ≤ w1.heap.size := by
  have := hb.size; simpa using this
theorem clone_n (A : Option Addr) (kap n : Nat) (xs : List Int) (w : World) (B : Nat) (hn : xs.length = n) (h : Reads w B 1 A n (bv xs)) (hB : B ≤ w.heap.size) (hm : n ≤ 1000000) :
    Calls Try.prog 27 #[.slice A n kap] w fun e w' => ∃ v, e = .returned v ∧ w'.ownsRow w.heap.size 5 1 v n (bv xs) ∧ Below w.heap.size w w' := by
  subst hn; exact clone_c A kap xs w B h hB hm
theorem undrew {B : Nat} {w w1 : World} (h : Below B w.drew w1) : Below B w w1 := ⟨h.os, h.tape, h.output, h.size, h.block⟩
theorem own_set {w : World} {B sz n : Nat} {e : TypeId} {v : Value} {xs : List Value} (h : w.ownsRow B e sz v n xs) {p : Addr} (hp : p.block < B) (u : Value) : (w.setCell p u).ownsRow B e sz v n xs :=
  own_move h fun g hg => Below.heap_setCell w p u g (by have := (h.lt g hg).1; omega)
/-- A box made behind a callee. -/
theorem box_after {w1 w2 : World} {cs : Array Value} {t e : TypeId} {v : Value} {n sz : Nat} {xs : List Value} (hb : Below w1.drew.heap.size w1.drew w2) (ho : w2.ownsRow w1.drew.heap.size e sz v n xs) :
    Blk (w2.alloc (.cells cs t)) w2.heap.size t cs ∧ (w2.alloc (.cells cs t)).ownsRow w1.heap.size e sz v n xs ∧ Below w1.heap.size w1 (w2.alloc (.cells cs t)) ∧ w1.heap.size ≤ w2.heap.size :=
  ⟨Blk.new _ _ _, ho.alloc _, (undrew hb).alloc hb.size _, hb.size⟩
/-- A box made ahead of a callee, filled behind it. -/
theorem box_before {w1 w2 : World} {z0 z1 z2 x y z : Value} {t e : TypeId} {v : Value} {n sz : Nat} {xs : List Value} (hb : Below (w1.drew.alloc (.cells #[z0, z1, z2] t)).heap.size (w1.drew.alloc (.cells #[z0, z1, z2] t)) w2) (ho : w2.ownsRow (w1.drew.alloc (.cells #[z0, z1, z2] t)).heap.size e sz v n xs) :
    Blk (((w2.setCell ⟨w1.heap.size, 0, none⟩ x).setCell ⟨w1.heap.size, 1, none⟩ y).setCell ⟨w1.heap.size, 2, none⟩ z) w1.heap.size t #[x, y, z] ∧ (((w2.setCell ⟨w1.heap.size, 0, none⟩ x).setCell ⟨w1.heap.size, 1, none⟩ y).setCell ⟨w1.heap.size, 2, none⟩ z).ownsRow w1.heap.size e sz v n xs ∧
    Below w1.heap.size w1 (((w2.setCell ⟨w1.heap.size, 0, none⟩ x).setCell ⟨w1.heap.size, 1, none⟩ y).setCell ⟨w1.heap.size, 2, none⟩ z) := by
  have hlt : w1.heap.size < (w1.drew.alloc (.cells #[z0, z1, z2] t)).heap.size := by
    have := World.size_alloc w1.drew (.cells #[z0, z1, z2] t)
    rw [this]; exact Nat.lt_succ_self _
  have b0 : Blk w2 w1.heap.size t #[z0, z1, z2] := (Blk.new w1.drew t #[z0, z1, z2]).new_ hb
  refine ⟨((b0.set_ 0 x).set_ 1 y).to 2 z (by simp), ?_, ?_⟩
  · exact own_base (own_set (own_set (own_set ho (p := ⟨w1.heap.size, 0, none⟩) hlt x) (p := ⟨w1.heap.size, 1, none⟩) hlt y) (p := ⟨w1.heap.size, 2, none⟩) hlt z) (Nat.le_of_lt hlt)
  · have hB : Below w1.heap.size w1 w2 := (((Below.refl w1.heap.size w1).drew).alloc (Nat.le_refl _) _).trans (hb.mono (Nat.le_of_lt hlt))
    exact ((hB.setCell (p := ⟨w1.heap.size, 0, none⟩) (Nat.le_refl _) x).setCell (p := ⟨w1.heap.size, 1, none⟩) (Nat.le_refl _) y).setCell (p := ⟨w1.heap.size, 2, none⟩) (Nat.le_refl _) z
theorem run_tail {A A' : Option Addr} {n kap i : Nat} (w : World) (hi : i ≤ n) (hA : A' = if kap = i then A else A.map fun x => x.add i) :
    (Instr.slice 22 (.slice A n kap) (some (.int .i64 i)) none none).run Try.prog w = .ok (.slice A' (n - i) (kap - i)) w := by
  rw [run_slice_l w 22 A n kap (show Try.prog.underlying 22 = some (.slice (Try.prog.elem 22)) by kernel_rfl) .i64 i (by omega) (by omega), hA]
  have hs : (sizeOf (Try.prog.elem 22)).run Try.prog w = .ok 1 w := by kernel_rfl
  simp [hs, Result.andThen, sliced]
theorem run_tail2 {A A' : Option Addr} {n kap i : Nat} (w : World) (hi : i ≤ n) (hA : A' = if kap = i then A else A.map fun x => x.add i) :
    (Instr.sliceAt 22 (.slice A n kap) (some (.int .i64 i)) none none).run Try.prog w = .ok (.slice A' (n - i) (kap - i)) w := by
  rw [run_sliceAt_slice w 22 _ _ _ _ (show Try.prog.underlying 22 = some (.slice (Try.prog.elem 22)) by kernel_rfl)]; exact run_tail w hi hA
/-- Two result boxes, filled. -/
theorem fill6 {w W : World} {b c : Nat} {t : TypeId} {a0 a1 a2 b0 b1 b2 x y z x' y' z' : Value} (hb : Blk W b t #[a0, a1, a2]) (hc : Blk W c t #[b0, b1, b2]) (hne : b ≠ c) :
    Blk ((((((W.setCell ⟨b, 0, none⟩ x).setCell ⟨b, 1, none⟩ y).setCell ⟨b, 2, none⟩ z).setCell ⟨c, 0, none⟩ x').setCell ⟨c, 1, none⟩ y').setCell ⟨c, 2, none⟩ z') b t #[x, y, z] ∧
    Blk ((((((W.setCell ⟨b, 0, none⟩ x).setCell ⟨b, 1, none⟩ y).setCell ⟨b, 2, none⟩ z).setCell ⟨c, 0, none⟩ x').setCell ⟨c, 1, none⟩ y').setCell ⟨c, 2, none⟩ z') c t #[x', y', z'] ∧
    (∀ {B sz n : Nat} {e : TypeId} {v : Value} {xs : List Value}, b < B → c < B → W.ownsRow B e sz v n xs → ((((((W.setCell ⟨b, 0, none⟩ x).setCell ⟨b, 1, none⟩ y).setCell ⟨b, 2, none⟩ z).setCell ⟨c, 0, none⟩ x').setCell ⟨c, 1, none⟩ y').setCell ⟨c, 2, none⟩ z').ownsRow B e sz v n xs) ∧
    (w.heap.size ≤ b → w.heap.size ≤ c → Below w.heap.size w W → Below w.heap.size w ((((((W.setCell ⟨b, 0, none⟩ x).setCell ⟨b, 1, none⟩ y).setCell ⟨b, 2, none⟩ z).setCell ⟨c, 0, none⟩ x').setCell ⟨c, 1, none⟩ y').setCell ⟨c, 2, none⟩ z')) := by
  have f1 : ∀ {W : World} {cs : Array Value} (o : Nat) (v : Value), Blk W b t cs → Blk (W.setCell ⟨c, o, none⟩ v) b t cs := fun o v h => h.far (p := ⟨c, o, none⟩) hne v
  have f2 : ∀ {W : World} {cs : Array Value} (o : Nat) (v : Value), Blk W c t cs → Blk (W.setCell ⟨b, o, none⟩ v) c t cs := fun o v h => h.far (p := ⟨b, o, none⟩) (fun e => hne e.symm) v
  refine ⟨f1 _ _ (f1 _ _ (f1 _ _ (((hb.set_ 0 x).set_ 1 y).to 2 z (by simp)))), ?_, fun h1 h2 h => ?_, fun h1 h2 h => ?_⟩
  · exact (((f2 2 z (f2 1 y (f2 0 x hc))).set_ 0 x').set_ 1 y').to 2 z' (by simp)
  · exact own_set (own_set (own_set (own_set (own_set (own_set h (p := ⟨b, 0, none⟩) h1 x) (p := ⟨b, 1, none⟩) h1 y) (p := ⟨b, 2, none⟩) h1 z) (p := ⟨c, 0, none⟩) h2 x') (p := ⟨c, 1, none⟩) h2 y') (p := ⟨c, 2, none⟩) h2 z'
  · exact (((((h.setCell (p := ⟨b, 0, none⟩) h1 x).setCell (p := ⟨b, 1, none⟩) h1 y).setCell (p := ⟨b, 2, none⟩) h1 z).setCell (p := ⟨c, 0, none⟩) h2 x').setCell (p := ⟨c, 1, none⟩) h2 y').setCell (p := ⟨c, 2, none⟩) h2 z'
def zeroS : Seg := ⟨0, [], false⟩
def cutE (s : Seg) (i : Int) : Int := if validB s = true then (if i < 0 ∨ (s.data.length : Int) < i then 2 else 0) else 1
def cutP (s : Seg) (i : Int) : Seg × Seg := if cutE s i = 0 then (⟨s.off, s.data.take i.toNat, false⟩, ⟨s.off + i, s.data.drop i.toNat, s.last⟩) else (zeroS, zeroS)
def OwnS (w : World) (B : Nat) (p : PSeg) : Prop := w.ownsRow B 5 1 (.slice p.A p.s.data.length p.kap) p.s.data.length (bv p.s.data) ∧ Bytes p.s.data
theorem OwnS.at_ {w : World} {B : Nat} {p : PSeg} (h : OwnS w B p) : SegAt w w.heap.size p.s p.A p.kap := own_seg h.1 h.2
def Cuts (w : World) (s : Seg) (i : Int) (e : Ending) (w' : World) : Prop :=
  ∃ p q : PSeg, e = .returned (.tuple #[pval p, pval q, .int .i64 (cutE s i)]) ∧ p.s = (cutP s i).1 ∧ q.s = (cutP s i).2 ∧ OwnS w' w.heap.size p ∧ OwnS w' w.heap.size q ∧ Below w.heap.size w w'
theorem cuts_zero {w w' : World} {s : Seg} {i x : Int} (he : cutE s i = x) (hx : x ≠ 0) (hb : Below w.heap.size w w') : Cuts w s i (.returned (.tuple #[.agg #[.int .i64 0, .slice none 0 0, .bool false], .agg #[.int .i64 0, .slice none 0 0, .bool false], .int .i64 x])) w' := by
  refine ⟨⟨zeroS, none, 0⟩, ⟨zeroS, none, 0⟩, by rw [he]; rfl, ?_, ?_, ⟨World.ownsRow_nil _ _ _ _, fun x hx => by simp [zeroS] at hx⟩, ⟨World.ownsRow_nil _ _ _ _, fun x hx => by simp [zeroS] at hx⟩, hb⟩
  all_goals
    unfold cutP
    rw [he, if_neg hx]
theorem cutE_zero {s : Seg} {i : Nat} (hv : validB s = true) (hi : i ≤ s.data.length) : cutE s i = 0 := by
  unfold cutE; rw [if_pos hv, if_neg (by omega)]
theorem cutP_zero {s : Seg} {i : Nat} (hv : validB s = true) (hi : i ≤ s.data.length) : cutP s i = (⟨s.off, s.data.take i, false⟩, ⟨s.off + i, s.data.drop i, s.last⟩) := by
  unfold cutP; rw [if_pos (cutE_zero hv hi)]; rfl
set_option maxHeartbeats 4000000 in
theorem cut_some (p : PSeg) (i : Nat) (w : World) (B : Nat) (h : SegAt w B p.s p.A p.kap) (hB : B ≤ w.heap.size) (hv : validB p.s = true) (hi : i ≤ p.s.data.length) :
    Calls Try.prog 28 #[pval p, .int .i64 i] w (Cuts w p.s i) := by
  have HCE := Kept.mk (cutE_zero hv hi)
  have HCP := Kept.mk (cutP_zero hv hi)
  have HLT : Kept ((p.s.data.take i).length = i) := ⟨by rw [List.length_take]; omega⟩
  have HLD : Kept ((p.s.data.drop i).length = p.s.data.length - i) := ⟨by rw [List.length_drop]⟩
  have hm := Nat.le_trans h.le h.max
  have HS := Kept.mk h
  have hmx := hm
  unfold maxLen at hmx
  have hle := h.le
  have hmk := h.max
  unfold maxLen at hmk
  clear h
  obtain ⟨x1, x2, x3⟩ := valid_iff.1 hv
  have x4 : (p.s.data.length : Int) ≤ 64 := by omega
  have x5 : (0 : Int) ≤ p.s.data.length := by omega
  unfold pval
  go_enter Try.func28, Try.ntmps28
  have i0 : (0 : Int) ≤ i := by omega
  have i1 : (i : Int) ≤ p.s.data.length := by omega
  have i2 : (p.s.data.length : Int) ≤ p.kap := by omega
  have i3 : i ≤ p.kap := by omega
  have i4 : (i : Int) ≤ p.kap := by omega
  go_wp2_with (go_at_call 14; refine (valid_c p.s p.A p.kap _ hm).mono ?_; rintro e w1 ⟨rfl, hb1⟩; rw [hv]; have HJ := Kept.mk (join (w := w) (by go_grown) hb1); have HB := Kept.mk (boxes3 hb1); have HZ := Kept.mk (size3 hb1); clear hb1; have k0 := HB.out.1.cell 0 (v := .int .i64 p.s.off) rfl; have k1 := HB.out.1.cell 1 (v := .slice p.A p.s.data.length p.kap) rfl; have k2 := HB.out.1.cell 2 (v := .bool p.s.last) rfl; have hz : w.heap.size < w1.heap.size := HB.out.1.lt; have HR1 := Kept.mk ((HS.out.rd.below (HJ.out.mono hB)).take_ hi))
  have hne1 : w.heap.size ≠ w1.heap.size := Nat.ne_of_lt hz
  have HB1 : Kept (B ≤ w1.heap.size) := ⟨by have := HJ.out.size; omega⟩
  go_upto_region 5 with fail
  go_cut [7] (fun s7 wx => ∃ (g7 : Nat) (A2 : Option Addr) (m2 : Nat), s7 = .pointer (some ⟨g7, 0, none⟩) ∧ Kept (Blk wx g7 24 #[.int .i64 p.s.off, .slice A2 i m2, .bool false]) ∧ Kept (wx.ownsRow w1.heap.size 5 1 (.slice A2 i m2) i (bv (p.s.data.take i))) ∧ Kept (Below w1.heap.size w1 wx) ∧ w1.heap.size ≤ g7)
  case first =>
    go_region_held3 (fun w' => w'.cell? ⟨w.heap.size, 0, none⟩ = some (.int .i64 p.s.off) ∧ w'.cell? ⟨w.heap.size, 1, none⟩ = some (.slice p.A p.s.data.length p.kap)) (first | (go_keep; done) | exact ⟨kk0, kk1⟩ | (simp [World.cell?_setCell_other, kk0, kk1, hne1]; done)) (first | (go_at_call 27; go_must (refine (clone_n p.A p.kap i (p.s.data.take i) _ B (by rw [List.length_take]; omega) (by rw [bv_take]; first | exact HR1.out | exact HR1.out.alloc HB1.out _) (by first | exact HB1.out | (have := HB1.out; simp; omega)) (by omega)).mono ?_); rintro e w2 ⟨v2, rfl, ho2, hb2⟩; obtain ⟨hc2, hf2⟩ := bcell hb2; obtain ⟨A2, m2, rfl⟩ := own_slice ho2; have kk0 : w2.cell? ⟨w.heap.size, 0, none⟩ = some (.int .i64 p.s.off) := (by first | exact (hb2.cell (p := ⟨w.heap.size, 0, none⟩) hz).trans k0 | exact (hb2.cell (p := ⟨w.heap.size, 0, none⟩) (Nat.lt_of_lt_of_le hz (by simp))).trans ((World.cell?_alloc_lt _ _ _ hz).trans k0)); have kk1 : w2.cell? ⟨w.heap.size, 1, none⟩ = some (.slice p.A p.s.data.length p.kap) := (by first | exact (hb2.cell (p := ⟨w.heap.size, 1, none⟩) hz).trans k1 | exact (hb2.cell (p := ⟨w.heap.size, 1, none⟩) (Nat.lt_of_lt_of_le hz (by simp))).trans ((World.cell?_alloc_lt _ _ _ hz).trans k1)); have HO2 := Kept.mk ho2; have HB2 := Kept.mk hb2; clear ho2 hb2))
    · go_wp2_with fail
      go_meet
      obtain ⟨t1, t2, t3, t4⟩ := box_after (cs := #[.int .i64 p.s.off, .slice A2 i m2, .bool false]) (t := 24) HB2.out HO2.out
      exact ⟨_, A2, m2, rfl, ⟨t1⟩, ⟨t2⟩, ⟨t3⟩, t4⟩
    · go_wp2_with fail
      go_meet
      obtain ⟨t1, t2, t3⟩ := box_before (x := .int .i64 p.s.off) (y := .slice A2 i m2) (z := .bool false) HB2.out HO2.out
      exact ⟨_, A2, m2, rfl, ⟨t1⟩, ⟨t2⟩, ⟨t3⟩, Nat.le_refl _⟩
  case rest =>
    obtain ⟨g7, A2, m2, rfl, HX7, HX5, HXB, hg7⟩ := hcut
    obtain ⟨wa, rfl⟩ : ∃ wa, wa = wc := ⟨_, rfl⟩
    obtain ⟨B0, B4, B5⟩ := HB.out
    have C0 := Kept.mk (B0.new_ HXB.out)
    have C4 := Kept.mk (B4.new_ HXB.out)
    have C5 := Kept.mk (B5.new_ HXB.out)
    have hsz : w1.heap.size ≤ wa.heap.size := HXB.out.size
    have hz3 := HZ.out
    clear k0 k1 k2 B0 B4 B5 HB hne1
    have k0 := C0.out.cell 0 (v := .int .i64 p.s.off) rfl
    have k1 := C0.out.cell 1 (v := .slice p.A p.s.data.length p.kap) rfl
    have k2 := C0.out.cell 2 (v := .bool p.s.last) rfl
    have hzc : w.heap.size < wa.heap.size := by omega
    have hne1 : w.heap.size ≠ wa.heap.size := by omega
    have HB1 : Kept (B ≤ wa.heap.size) := ⟨by omega⟩
    have HJc : Kept (Below w.heap.size w wa) := ⟨join HJ.out HXB.out⟩
    have HR2 : Kept (Reads wa B 1 (if p.kap = i then p.A else Option.map (fun x => x.add i) p.A) (p.s.data.length - i) (bv (p.s.data.drop i))) := ⟨by
      have := (HS.out.rd.below (HJc.out.mono hB)).cut (k := i) hi hle
      rw [bv_drop]
      simpa using this⟩
    obtain ⟨A', HA'⟩ : ∃ A', Kept (A' = if p.kap = i then p.A else p.A.map fun x => x.add i) := ⟨_, ⟨rfl⟩⟩
    rw [← HA'.out] at HR2
    have hsl := fun w => run_tail w hi HA'.out
    have hsl2 := fun w => run_tail2 w hi HA'.out
    have e1 : IntKind.i64.wrap (p.s.off + (i : Int)) = p.s.off + i := IntWalk.i64_in _ (by omega)
    go_wp2_with fail
    go_upto_region 6 with fail
    go_cut [8] (fun s8 wx => ∃ (g8 : Nat) (A3 : Option Addr) (m3 : Nat), s8 = .pointer (some ⟨g8, 0, none⟩) ∧ Kept (Blk wx g8 24 #[.int .i64 (p.s.off + i), .slice A3 (p.s.data.length - i) m3, .bool p.s.last]) ∧ Kept (wx.ownsRow wa.heap.size 5 1 (.slice A3 (p.s.data.length - i) m3) (p.s.data.length - i) (bv (p.s.data.drop i))) ∧ Kept (Below wa.heap.size wa wx) ∧ wa.heap.size ≤ g8)
    case first =>
      go_region_held3 (fun w' => w'.cell? ⟨w.heap.size, 0, none⟩ = some (.int .i64 p.s.off) ∧ w'.cell? ⟨w.heap.size, 1, none⟩ = some (.slice p.A p.s.data.length p.kap) ∧ w'.cell? ⟨w.heap.size, 2, none⟩ = some (.bool p.s.last)) (first | (go_keep; done) | exact ⟨kk0, kk1, kk2⟩ | (simp [World.cell?_setCell_other, kk0, kk1, kk2, hne1]; done)) (first | (go_at_call 27; go_must (refine (clone_n _ _ (p.s.data.length - i) (p.s.data.drop i) _ B (by rw [List.length_drop]) (by first | exact HR2.out | exact HR2.out.alloc HB1.out _) (by first | exact HB1.out | (have := HB1.out; simp; omega)) (by omega)).mono ?_); rintro e w2 ⟨v2, rfl, ho2, hb2⟩; obtain ⟨hc2, hf2⟩ := bcell hb2; obtain ⟨A3, m3, rfl⟩ := own_slice ho2; have kk0 : w2.cell? ⟨w.heap.size, 0, none⟩ = some (.int .i64 p.s.off) := (by first | exact (hb2.cell (p := ⟨w.heap.size, 0, none⟩) hzc).trans k0 | exact (hb2.cell (p := ⟨w.heap.size, 0, none⟩) (Nat.lt_of_lt_of_le hzc (by simp))).trans ((World.cell?_alloc_lt _ _ _ hzc).trans k0)); have kk1 : w2.cell? ⟨w.heap.size, 1, none⟩ = some (.slice p.A p.s.data.length p.kap) := (by first | exact (hb2.cell (p := ⟨w.heap.size, 1, none⟩) hzc).trans k1 | exact (hb2.cell (p := ⟨w.heap.size, 1, none⟩) (Nat.lt_of_lt_of_le hzc (by simp))).trans ((World.cell?_alloc_lt _ _ _ hzc).trans k1)); have kk2 : w2.cell? ⟨w.heap.size, 2, none⟩ = some (.bool p.s.last) := (by first | exact (hb2.cell (p := ⟨w.heap.size, 2, none⟩) hzc).trans k2 | exact (hb2.cell (p := ⟨w.heap.size, 2, none⟩) (Nat.lt_of_lt_of_le hzc (by simp))).trans ((World.cell?_alloc_lt _ _ _ hzc).trans k2)); have HO2 := Kept.mk ho2; have HB2 := Kept.mk hb2; clear ho2 hb2))
      · clear e1
        (try go_wp2_with fail)
        go_meet
        obtain ⟨t1, t2, t3, t4⟩ := box_after (cs := #[.int .i64 (p.s.off + i), .slice A3 (p.s.data.length - i) m3, .bool p.s.last]) (t := 24) HB2.out HO2.out
        exact ⟨_, A3, m3, rfl, ⟨t1⟩, ⟨t2⟩, ⟨t3⟩, t4⟩
      · clear e1
        (try go_wp2_with fail)
        go_meet
        obtain ⟨t1, t2, t3⟩ := box_before (x := .int .i64 (p.s.off + i)) (y := .slice A3 (p.s.data.length - i) m3) (z := .bool p.s.last) HB2.out HO2.out
        exact ⟨_, A3, m3, rfl, ⟨t1⟩, ⟨t2⟩, ⟨t3⟩, Nat.le_refl _⟩
    case rest =>
      obtain ⟨g8, A3, m3, rfl, HX8, HX6, HXC, hg8⟩ := hcut
      have D0 := Kept.mk (C0.out.new_ HXC.out)
      have D4 := Kept.mk (C4.out.new_ HXC.out)
      have D5 := Kept.mk (C5.out.new_ HXC.out)
      have D7 := Kept.mk (HX7.out.new_ HXC.out)
      have hsz2 : wa.heap.size ≤ wc.heap.size := HXC.out.size
      have hl8 : g8 < wc.heap.size := HX8.out.lt
      have hl7 : g7 < wa.heap.size := HX7.out.lt
      have p0 := HX8.out.cell 0 (v := .int .i64 (p.s.off + i)) rfl
      have p1 := HX8.out.cell 1 (v := .slice A3 (p.s.data.length - i) m3) rfl
      have p2 := HX8.out.cell 2 (v := .bool p.s.last) rfl
      have r0 := D7.out.cell 0 (v := .int .i64 p.s.off) rfl
      have r1 := D7.out.cell 1 (v := .slice A2 i m2) rfl
      have r2 := D7.out.cell 2 (v := .bool false) rfl
      have s0 := D4.out.cell 0 (v := .int .i64 0) rfl
      have s1 := D4.out.cell 1 (v := .slice none 0 0) rfl
      have s2 := D4.out.cell 2 (v := .bool false) rfl
      have t0 := D5.out.cell 0 (v := .int .i64 0) rfl
      have t1 := D5.out.cell 1 (v := .slice none 0 0) rfl
      have t2 := D5.out.cell 2 (v := .bool false) rfl
      have sf0 := D4.out.free 0
      have sf1 := D4.out.free 1
      have sf2 := D4.out.free 2
      have tf0 := D5.out.free 0
      have tf1 := D5.out.free 1
      have tf2 := D5.out.free 2
      have n1 : g7 ≠ w.heap.size + 1 := by omega
      have n2 : g7 ≠ w.heap.size + 1 + 1 := by omega
      have n3 : g8 ≠ w.heap.size + 1 := by omega
      have n4 : g8 ≠ w.heap.size + 1 + 1 := by omega
      have n5 : w.heap.size + 1 ≠ w.heap.size + 1 + 1 := by omega
      have n6 : w.heap.size + 1 + 1 ≠ w.heap.size + 1 := by omega
      clear k0 k1 k2 hsl hsl2 e1
      go_wp2_with fail
      go_region
      obtain ⟨f1, f2, f3, f4⟩ := fill6 (w := w) (x := .int .i64 p.s.off) (y := .slice A2 i m2) (z := .bool false) (x' := .int .i64 (p.s.off + i)) (y' := .slice A3 (p.s.data.length - i) m3) (z' := .bool p.s.last) D4.out D5.out n5
      have o2 := f3 (by omega) (by omega) (own_new HX5.out HXC.out)
      have o3 := f3 (by omega) (by omega) HX6.out
      have bb := f4 (by omega) (by omega) (join HJc.out HXC.out)
      clear f3 f4
      generalize World.setCell _ _ _ = WF at *
      have v0 := f1.cell 0 (v := .int .i64 p.s.off) rfl
      have v1 := f1.cell 1 (v := .slice A2 i m2) rfl
      have v2 := f1.cell 2 (v := .bool false) rfl
      have u0 := f2.cell 0 (v := .int .i64 (p.s.off + i)) rfl
      have u1 := f2.cell 1 (v := .slice A3 (p.s.data.length - i) m3) rfl
      have u2 := f2.cell 2 (v := .bool p.s.last) rfl
      go_wp2_with fail
      refine bodyPost_ret (v := .tuple #[.agg #[.int .i64 p.s.off, .slice A2 i m2, .bool false], .agg #[.int .i64 (p.s.off + i), .slice A3 (p.s.data.length - i) m3, .bool p.s.last], .int .i64 0]) (by simp [results, Try.results28, go_sem, v0, v1, v2, u0, u1, u2]) rfl ⟨⟨⟨p.s.off, p.s.data.take i, false⟩, A2, m2⟩, ⟨⟨p.s.off + i, p.s.data.drop i, p.s.last⟩, A3, m3⟩, ?_, by rw [HCP.out], by rw [HCP.out], ⟨?_, HS.out.by_.take _⟩, ⟨?_, HS.out.by_.drop _⟩, bb.drew⟩
      · rw [HCE.out]; unfold pval; rw [HLT.out, HLD.out]
      · show (World.drew WF).ownsRow _ _ _ _ _ _
        rw [HLT.out]; exact own_base o2 (by omega)
      · show (World.drew WF).ownsRow _ _ _ _ _ _
        rw [HLD.out]; exact own_base o3 (by omega)
end Go.Proofs.Ytdhajibegkkeiaa
