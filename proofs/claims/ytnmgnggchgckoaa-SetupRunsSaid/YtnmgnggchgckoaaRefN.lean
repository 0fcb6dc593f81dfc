/- Setup: the reference's New. -/
import Derived.Test.YtnmgnggchgckoaaRefF
import Derived.Test.YtnmgnggchgckoaaNew
import Derived.Deep.RegionLaw
namespace Go.Proofs.Ytnmgnggchgckoaa
set_option linter.unusedVariables false
set_option linter.unusedSimpArgs false
open Go.RowKit
theorem own_e (W : World) (B : Nat) (hB : B ≤ W.heap.size) : (W.alloc (.cells #[] 3)).ownsRow B 3 1 (.slice (some ⟨W.heap.size, 0, none⟩) 0 0) 0 [] :=
  World.ownsRow_lit (base := B) (e := 3) (size := 1) W #[] 0 hB (by unfold maxLen; omega) rfl
theorem box_one' (w : World) (cs : Array Value) : ∃ W, W = w.alloc (.cells cs 51) ∧ Blk W w.heap.size 51 cs ∧ Below w.heap.size w W := ⟨_, rfl, Blk.new _ _ _, (Below.refl _ _).alloc (Nat.le_refl _) _⟩
def RNw (w : World) (c : Ch) (e : Ending) (w' : World) : Prop :=
  ∃ (gA k gD m : Nat), e = .returned (.agg #[.int .i64 c.conn, .int .i64 c.need, .slice (some ⟨gA, 0, none⟩) c.n k, .slice (some ⟨gD, 0, none⟩) c.n m]) ∧ RefV w' c (at4 gA k gD m) ∧ Below w.heap.size w w' ∧ w.heap.size ≤ gA ∧ w.heap.size ≤ gD
theorem ch_far {W : World} {p g : Nat} {t : TypeId} {cs : Array Value} {x y z u : Value} (h : Blk W g t cs) (hne : g ≠ p) : Blk ((((W.setCell ⟨p, 0, none⟩ x).setCell ⟨p, 1, none⟩ y).setCell ⟨p, 2, none⟩ z).setCell ⟨p, 3, none⟩ u) g t cs :=
  (((h.far (p := ⟨p, 0, none⟩) hne x).far (p := ⟨p, 1, none⟩) hne y).far (p := ⟨p, 2, none⟩) hne z).far (p := ⟨p, 3, none⟩) hne u
theorem ch_box {W : World} {p : Nat} {t : TypeId} {a b c d x y z u : Value} (h : Blk W p t #[a, b, c, d]) : Blk ((((W.setCell ⟨p, 0, none⟩ x).setCell ⟨p, 1, none⟩ y).setCell ⟨p, 2, none⟩ z).setCell ⟨p, 3, none⟩ u) p t #[x, y, z, u] :=
  (((h.set_ 0 x).set_ 1 y).set_ 2 z).to 3 u (by simp)
theorem ch_bel {w W : World} {p B : Nat} {x y z u : Value} (h : Below B w W) (hp : B ≤ p) : Below B w ((((W.setCell ⟨p, 0, none⟩ x).setCell ⟨p, 1, none⟩ y).setCell ⟨p, 2, none⟩ z).setCell ⟨p, 3, none⟩ u) :=
  (((h.setCell (p := ⟨p, 0, none⟩) hp x).setCell (p := ⟨p, 1, none⟩) hp y).setCell (p := ⟨p, 2, none⟩) hp z).setCell (p := ⟨p, 3, none⟩) hp u
theorem start0_n (conn need : Int) (l : List Int) : (start0 conn l need).n = l.length := by simp [start0, Ch.n]
theorem zeros_row (n : Nat) : (ints (List.replicate n 0)).toList.take n = iv (List.replicate n 0) := by
  unfold ints iv
  rw [List.toList_toArray]
  exact List.take_of_length_le (by simp)
theorem rnew_end {conn need : Int} {l : List Int} {w W : World} {g kk gM kM : Nat} {cur cM : Array Value} (hok : Ok (start0 conn l need)) (hg : Blk W g 3 cur) (hc : cur.toList.take l.length = iv l) (hm : Blk W gM 3 cM) (hcm : cM.toList.take l.length = iv (List.replicate l.length 0)) (hb : Below w.heap.size w W) (b1 : w.heap.size ≤ g) (b2 : w.heap.size ≤ gM) :
    RNw w (start0 conn l need) (.returned (.agg #[.int .i64 conn, .int .i64 need, .slice (some ⟨g, 0, none⟩) l.length kk, .slice (some ⟨gM, 0, none⟩) l.length kM])) W :=
  ⟨g, kk, gM, kM, by rw [start0_n]; rfl, ⟨⟨g, cur, rfl, hg, by rw [start0_n]; exact hc⟩, ⟨gM, cM, rfl, hm, by rw [start0_n]; exact hcm⟩, hok⟩, hb, b1, b2⟩
set_option maxHeartbeats 4000000 in
theorem rnew_c (conn need : Int) (l : List Int) (A : Option Addr) (kap : Nat) (w : World) (h : Reads w w.heap.size 1 A l.length (iv l)) (hl : l.length ≤ 16) (hl1 : 1 ≤ l.length) (hok : Ok (start0 conn l need)) :
    Calls Try.prog 24 #[.int .i64 conn, .slice A l.length kap, .int .i64 need] w (RNw w (start0 conn l need)) := by
  obtain ⟨i0, hi0, hz0, hz1, hz2⟩ := info_parts info3
  have HOK := Kept.mk hok
  obtain ⟨W0, hW0, hB, hD⟩ := box_one' w #[.int .i64 0, .int .i64 0, .slice none 0 0, .slice none 0 0]
  have HB := Kept.mk hB
  have HD := Kept.mk hD
  have HR := Kept.mk (h.below hD)
  have r0 := hB.cell 0 (v := .int .i64 0) rfl
  have r1 := hB.cell 1 (v := .int .i64 0) rfl
  have r2 := hB.cell 2 (v := .slice none 0 0) rfl
  have r3 := hB.cell 3 (v := .slice none 0 0) rfl
  have f0 := hB.free 0
  have f1 := hB.free 1
  have f2 := hB.free 2
  have f3 := hB.free 3
  have kz := hB.lt
  have hmk := fun W => run_mk l.length hl W
  clear h hok hB hD
  go_enter Try.func24, Try.ntmps24
  go_upto_region 1 with fail
  rw [← hW0]
  clear hW0
  have HO1 : Kept ((W0.alloc (.cells #[] 3)).drew.ownsRow w.heap.size 3 1 (.slice (some ⟨W0.heap.size, 0, none⟩) 0 0) 0 []) := ⟨own_e W0 _ (by omega)⟩
  have HO2 : Kept (((W0.alloc (.cells (ints (List.replicate l.length 0)) 3)).alloc (.cells #[] 3)).drew.ownsRow w.heap.size 3 1 (.slice (some ⟨W0.heap.size + 1, 0, none⟩) 0 0) 0 []) := ⟨by have := own_e (W0.alloc (.cells (ints (List.replicate l.length 0)) 3)) w.heap.size (by simp; omega); rw [World.size_alloc] at this; exact this⟩
  have HO3 : Kept (((W0.alloc (.cells #[] 3)).alloc (.cells (ints (List.replicate l.length 0)) 3)).drew.ownsRow w.heap.size 3 1 (.slice (some ⟨W0.heap.size, 0, none⟩) 0 0) 0 []) := ⟨(own_e W0 _ (by omega)).alloc _⟩
  have HR1 : Kept (Reads (W0.alloc (.cells #[] 3)).drew w.heap.size 1 A l.length (iv l)) := ⟨HR.out.alloc (Nat.le_of_lt kz) _⟩
  have HR2 : Kept (Reads ((W0.alloc (.cells (ints (List.replicate l.length 0)) 3)).alloc (.cells #[] 3)).drew w.heap.size 1 A l.length (iv l)) := ⟨(HR.out.alloc (Nat.le_of_lt kz) _).alloc (by simp; omega) _⟩
  have HR3 : Kept (Reads ((W0.alloc (.cells #[] 3)).alloc (.cells (ints (List.replicate l.length 0)) 3)).drew w.heap.size 1 A l.length (iv l)) := ⟨(HR.out.alloc (Nat.le_of_lt kz) _).alloc (by simp; omega) _⟩
  have HBW1 : Kept (Blk (W0.alloc (.cells #[] 3)).drew w.heap.size 51 #[.int .i64 0, .int .i64 0, .slice none 0 0, .slice none 0 0]) := ⟨HB.out.alloc _⟩
  have HBW2 : Kept (Blk ((W0.alloc (.cells (ints (List.replicate l.length 0)) 3)).alloc (.cells #[] 3)).drew w.heap.size 51 #[.int .i64 0, .int .i64 0, .slice none 0 0, .slice none 0 0]) := ⟨(HB.out.alloc _).alloc _⟩
  have HBW3 : Kept (Blk ((W0.alloc (.cells #[] 3)).alloc (.cells (ints (List.replicate l.length 0)) 3)).drew w.heap.size 51 #[.int .i64 0, .int .i64 0, .slice none 0 0, .slice none 0 0]) := ⟨(HB.out.alloc _).alloc _⟩
  have HM2 : Kept (Blk ((W0.alloc (.cells (ints (List.replicate l.length 0)) 3)).alloc (.cells #[] 3)).drew W0.heap.size 3 (ints (List.replicate l.length 0))) := ⟨(Blk.new W0 _ _).alloc _⟩
  have HM3 : Kept (Blk ((W0.alloc (.cells #[] 3)).alloc (.cells (ints (List.replicate l.length 0)) 3)).drew (W0.heap.size + 1) 3 (ints (List.replicate l.length 0))) := ⟨by have := Blk.new (W0.alloc (.cells #[] 3)) 3 (ints (List.replicate l.length 0)); rw [World.size_alloc] at this; exact this⟩
  have HDW1 : Kept (Below w.heap.size w (W0.alloc (.cells #[] 3)).drew) := ⟨dN (HD.out.alloc HD.out.size _) 1⟩
  have HDW2 : Kept (Below w.heap.size w ((W0.alloc (.cells (ints (List.replicate l.length 0)) 3)).alloc (.cells #[] 3)).drew) := ⟨dN ((HD.out.alloc HD.out.size _).alloc (by have := HD.out.size; simp; omega) _) 1⟩
  have HDW3 : Kept (Below w.heap.size w ((W0.alloc (.cells #[] 3)).alloc (.cells (ints (List.replicate l.length 0)) 3)).drew) := ⟨dN ((HD.out.alloc HD.out.size _).alloc (by have := HD.out.size; simp; omega) _) 1⟩
  go_region_law (first | (refine step_append_any _ rfl (.tmp 9) (.tmp 10) 22 rfl w.heap.size 3 i0 _ 1 8 Try.underlying22 hi0 hz0 hz1 hz2 rfl (by omega) _ 0 [] rfl HO1.out w.heap.size A l.length kap (iv l) rfl HR1.out (iv_one _) (by unfold maxLen; omega) (by omega) (by simp; omega) ?_; intro v' w5 ho hgw hat; simp only [Nat.zero_add, List.nil_append] at ho; go_loud (obtain ⟨g, kk, cur, rfl, hg1, hg2, hg3, hg4, hg5⟩ := own_form ho (by omega)); go_loud (change World.grownBy _ _ (some W0.heap.size) at hgw); go_loud (have HB5 := Kept.mk (HBW1.out.grown hgw (ne_row (by omega)))); have HG5 := Kept.mk hg2; have HC5 := Kept.mk hg5; go_loud (have HD5 := Kept.mk (HDW1.out.grown hgw HDW1.out.size (fun j hj => by injection hj with hj; omega))); have HM5 : True := trivial; clear r0 r1 r2 r3 f0 f1 f2 f3 kz ho hgw hat hg2 hg5; have r0 := HB5.out.cell 0 (v := .int .i64 0) rfl; have r1 := HB5.out.cell 1 (v := .int .i64 0) rfl; have r2 := HB5.out.cell 2 (v := .slice none 0 0) rfl; have r3 := HB5.out.cell 3 (v := .slice none 0 0) rfl; have f0 := HB5.out.free 0; have f1 := HB5.out.free 1; have f2 := HB5.out.free 2; have f3 := HB5.out.free 3; have kz := HB5.out.lt) | (refine step_append_any _ rfl (.tmp 9) (.tmp 10) 22 rfl w.heap.size 3 i0 _ 1 8 Try.underlying22 hi0 hz0 hz1 hz2 rfl (by omega) _ 0 [] rfl HO2.out w.heap.size A l.length kap (iv l) rfl HR2.out (iv_one _) (by unfold maxLen; omega) (by omega) (by simp; omega) ?_; intro v' w5 ho hgw hat; simp only [Nat.zero_add, List.nil_append] at ho; go_loud (obtain ⟨g, kk, cur, rfl, hg1, hg2, hg3, hg4, hg5⟩ := own_form ho (by omega)); go_loud (change World.grownBy _ _ (some (W0.heap.size + 1)) at hgw); go_loud (have HB5 := Kept.mk (HBW2.out.grown hgw (ne_row (by omega)))); have HG5 := Kept.mk hg2; have HC5 := Kept.mk hg5; go_loud (have HD5 := Kept.mk (HDW2.out.grown hgw HDW2.out.size (fun j hj => by injection hj with hj; omega))); go_loud (have HM5 := Kept.mk (HM2.out.grown hgw (ne_row (by omega)))); clear r0 r1 r2 r3 f0 f1 f2 f3 kz ho hgw hat hg2 hg5; have r0 := HB5.out.cell 0 (v := .int .i64 0) rfl; have r1 := HB5.out.cell 1 (v := .int .i64 0) rfl; have r2 := HB5.out.cell 2 (v := .slice none 0 0) rfl; have r3 := HB5.out.cell 3 (v := .slice none 0 0) rfl; have f0 := HB5.out.free 0; have f1 := HB5.out.free 1; have f2 := HB5.out.free 2; have f3 := HB5.out.free 3; have kz := HB5.out.lt) | (refine step_append_any _ rfl (.tmp 9) (.tmp 10) 22 rfl w.heap.size 3 i0 _ 1 8 Try.underlying22 hi0 hz0 hz1 hz2 rfl (by omega) _ 0 [] rfl HO3.out w.heap.size A l.length kap (iv l) rfl HR3.out (iv_one _) (by unfold maxLen; omega) (by omega) (by simp; omega) ?_; intro v' w5 ho hgw hat; simp only [Nat.zero_add, List.nil_append] at ho; go_loud (obtain ⟨g, kk, cur, rfl, hg1, hg2, hg3, hg4, hg5⟩ := own_form ho (by omega)); go_loud (change World.grownBy _ _ (some W0.heap.size) at hgw); go_loud (have HB5 := Kept.mk (HBW3.out.grown hgw (ne_row (by omega)))); have HG5 := Kept.mk hg2; have HC5 := Kept.mk hg5; go_loud (have HD5 := Kept.mk (HDW3.out.grown hgw HDW3.out.size (fun j hj => by injection hj with hj; omega))); go_loud (have HM5 := Kept.mk (HM3.out.grown hgw (ne_row (by omega)))); clear r0 r1 r2 r3 f0 f1 f2 f3 kz ho hgw hat hg2 hg5; have r0 := HB5.out.cell 0 (v := .int .i64 0) rfl; have r1 := HB5.out.cell 1 (v := .int .i64 0) rfl; have r2 := HB5.out.cell 2 (v := .slice none 0 0) rfl; have r3 := HB5.out.cell 3 (v := .slice none 0 0) rfl; have f0 := HB5.out.free 0; have f1 := HB5.out.free 1; have f2 := HB5.out.free 2; have f3 := HB5.out.free 3; have kz := HB5.out.lt))
  · go_wp2_with fail
    have hne : g ≠ w.heap.size := Blk.ne_ HG5.out HB5.out (by decide)
    obtain ⟨WF, hWF⟩ : ∃ WF, WF = ((((w5.setCell ⟨w.heap.size, 0, none⟩ (.int .i64 conn)).setCell ⟨w.heap.size, 1, none⟩ (.int .i64 need)).setCell ⟨w.heap.size, 2, none⟩ (.slice (some ⟨g, 0, none⟩) l.length kk)).setCell ⟨w.heap.size, 3, none⟩ (.slice (some ⟨w5.heap.size, 0, none⟩) l.length l.length)) := ⟨_, rfl⟩
    have q1 : Blk WF w.heap.size 51 #[.int .i64 conn, .int .i64 need, .slice (some ⟨g, 0, none⟩) l.length kk, .slice (some ⟨w5.heap.size, 0, none⟩) l.length l.length] := by rw [hWF]; exact ch_box HB5.out
    have q2 : Blk WF g 3 cur := by rw [hWF]; exact ch_far HG5.out hne
    have q3 : Below w.heap.size w WF := by rw [hWF]; exact ch_bel HD5.out (Nat.le_refl _)
    have q5 : WF.heap.size = w5.heap.size := by rw [hWF, set4]
    have q4 : Blk (WF.alloc (.cells (ints (List.replicate l.length 0)) 3)) w5.heap.size 3 (ints (List.replicate l.length 0)) := by have := Blk.new WF 3 (ints (List.replicate l.length 0)); rw [q5] at this; exact this
    rw [← hWF]
    clear hWF r0 r1 r2 r3 f0 f1 f2 f3 kz
    have e0 := q1.cell 0 (v := .int .i64 conn) rfl
    have e1 := q1.cell 1 (v := .int .i64 need) rfl
    have e2 := q1.cell 2 (v := .slice (some ⟨g, 0, none⟩) l.length kk) rfl
    have e3 := q1.cell 3 (v := .slice (some ⟨w5.heap.size, 0, none⟩) l.length l.length) rfl
    have e4 := q1.lt
    refine bodyPost_ret (v := .agg #[.int .i64 conn, .int .i64 need, .slice (some ⟨g, 0, none⟩) l.length kk, .slice (some ⟨w5.heap.size, 0, none⟩) l.length l.length]) (by simp [results, Try.results24, go_sem, e0, e1, e2, e3, e4]) rfl ?_
    exact rnew_end HOK.out (q2.alloc _) HC5.out q4 (zeros_row _) (q3.alloc q3.size _) hg1 HD5.out.size
  · go_wp2_with fail
    have hne : g ≠ w.heap.size := Blk.ne_ HG5.out HB5.out (by decide)
    obtain ⟨WF, hWF⟩ : ∃ WF, WF = ((((w5.setCell ⟨w.heap.size, 0, none⟩ (.int .i64 conn)).setCell ⟨w.heap.size, 1, none⟩ (.int .i64 need)).setCell ⟨w.heap.size, 2, none⟩ (.slice (some ⟨g, 0, none⟩) l.length kk)).setCell ⟨w.heap.size, 3, none⟩ (.slice (some ⟨W0.heap.size + 1, 0, none⟩) l.length l.length)) := ⟨_, rfl⟩
    have q1 : Blk WF w.heap.size 51 #[.int .i64 conn, .int .i64 need, .slice (some ⟨g, 0, none⟩) l.length kk, .slice (some ⟨W0.heap.size + 1, 0, none⟩) l.length l.length] := by rw [hWF]; exact ch_box HB5.out
    have q2 : Blk WF g 3 cur := by rw [hWF]; exact ch_far HG5.out hne
    have q3 : Below w.heap.size w WF := by rw [hWF]; exact ch_bel HD5.out (Nat.le_refl _)
    have hnm : W0.heap.size + 1 ≠ w.heap.size := Blk.ne_ HM5.out HB5.out (by decide)
    have q4 : Blk WF (W0.heap.size + 1) 3 (ints (List.replicate l.length 0)) := by rw [hWF]; exact ch_far HM5.out hnm
    rw [← hWF]
    clear hWF r0 r1 r2 r3 f0 f1 f2 f3 kz
    have e0 := q1.cell 0 (v := .int .i64 conn) rfl
    have e1 := q1.cell 1 (v := .int .i64 need) rfl
    have e2 := q1.cell 2 (v := .slice (some ⟨g, 0, none⟩) l.length kk) rfl
    have e3 := q1.cell 3 (v := .slice (some ⟨W0.heap.size + 1, 0, none⟩) l.length l.length) rfl
    have e4 := q1.lt
    refine bodyPost_ret (v := .agg #[.int .i64 conn, .int .i64 need, .slice (some ⟨g, 0, none⟩) l.length kk, .slice (some ⟨W0.heap.size + 1, 0, none⟩) l.length l.length]) (by simp [results, Try.results24, go_sem, e0, e1, e2, e3, e4]) rfl ?_
    exact rnew_end HOK.out q2 HC5.out q4 (zeros_row _) q3 hg1 (by have := HD.out.size; omega)
  · go_wp2_with fail
    have hne : g ≠ w.heap.size := Blk.ne_ HG5.out HB5.out (by decide)
    obtain ⟨WF, hWF⟩ : ∃ WF, WF = ((((w5.setCell ⟨w.heap.size, 0, none⟩ (.int .i64 conn)).setCell ⟨w.heap.size, 1, none⟩ (.int .i64 need)).setCell ⟨w.heap.size, 2, none⟩ (.slice (some ⟨g, 0, none⟩) l.length kk)).setCell ⟨w.heap.size, 3, none⟩ (.slice (some ⟨W0.heap.size, 0, none⟩) l.length l.length)) := ⟨_, rfl⟩
    have q1 : Blk WF w.heap.size 51 #[.int .i64 conn, .int .i64 need, .slice (some ⟨g, 0, none⟩) l.length kk, .slice (some ⟨W0.heap.size, 0, none⟩) l.length l.length] := by rw [hWF]; exact ch_box HB5.out
    have q2 : Blk WF g 3 cur := by rw [hWF]; exact ch_far HG5.out hne
    have q3 : Below w.heap.size w WF := by rw [hWF]; exact ch_bel HD5.out (Nat.le_refl _)
    have hnm : W0.heap.size ≠ w.heap.size := Blk.ne_ HM5.out HB5.out (by decide)
    have q4 : Blk WF W0.heap.size 3 (ints (List.replicate l.length 0)) := by rw [hWF]; exact ch_far HM5.out hnm
    rw [← hWF]
    clear hWF r0 r1 r2 r3 f0 f1 f2 f3 kz
    have e0 := q1.cell 0 (v := .int .i64 conn) rfl
    have e1 := q1.cell 1 (v := .int .i64 need) rfl
    have e2 := q1.cell 2 (v := .slice (some ⟨g, 0, none⟩) l.length kk) rfl
    have e3 := q1.cell 3 (v := .slice (some ⟨W0.heap.size, 0, none⟩) l.length l.length) rfl
    have e4 := q1.lt
    refine bodyPost_ret (v := .agg #[.int .i64 conn, .int .i64 need, .slice (some ⟨g, 0, none⟩) l.length kk, .slice (some ⟨W0.heap.size, 0, none⟩) l.length l.length]) (by simp [results, Try.results24, go_sem, e0, e1, e2, e3, e4]) rfl ?_
    exact rnew_end HOK.out q2 HC5.out q4 (zeros_row _) q3 hg1 (by have := HD.out.size; omega)
end Go.Proofs.Ytnmgnggchgckoaa
