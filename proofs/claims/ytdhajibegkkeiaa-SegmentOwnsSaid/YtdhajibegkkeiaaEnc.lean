/- Segment: the walk of Encode (printed by gen_enc.py). -/
import Derived.Test.YtdhajibegkkeiaaWalks
import Derived.Test.YtdhajibegkkeiaaMem
namespace Go.Proofs.Ytdhajibegkkeiaa
set_option linter.unusedVariables false
set_option linter.unusedSimpArgs false
open Go.RowKit
def headP (s : Seg) : List Int := [if s.last = true then 1 else 0, s.off / 1099511627776, s.off / 4294967296 % 256, s.off / 16777216 % 256, s.off / 65536 % 256, s.off / 256 % 256, s.off % 256, s.data.length]
def codeP (s : Seg) : List Int := headP s ++ s.data
theorem codeP_len (s : Seg) : (codeP s).length = 8 + s.data.length := by simp [codeP, headP]; omega
theorem codeP_bytes {s : Seg} (hv : validB s = true) (hb : Bytes s.data) : Bytes (codeP s) := by
  obtain ⟨x1, x2, x3⟩ := valid_iff.1 hv
  refine Bytes.app (fun x hx => ?_) hb
  simp only [headP, List.mem_cons, List.not_mem_nil, or_false] at hx
  rcases hx with rfl | rfl | rfl | rfl | rfl | rfl | rfl | rfl
  · split <;> omega
  all_goals omega
def encP (s : Seg) : List Int := if validB s = true then codeP s else []
def Encs (w : World) (s : Seg) (e : Ending) (w' : World) : Prop :=
  ∃ v, e = .returned (.tuple #[v, .int .i64 (if validB s = true then 0 else 1)]) ∧ Bytes (encP s) ∧ w'.ownsRow w.heap.size 5 1 v (encP s).length (bv (encP s)) ∧ Below w.heap.size w w'
/-- A literal slice of bytes. -/
theorem lit8 (w : World) (l : List Int) (h : l.length ≤ 1000) : (w.alloc (.cells (bv l).toArray 5)).ownsRow w.heap.size 5 1 (.slice (some ⟨w.heap.size, 0, none⟩) l.length l.length) l.length (bv l) := by
  have := World.ownsRow_lit (base := w.heap.size) (e := 5) (size := 1) w (bv l).toArray l.length (Nat.le_refl _) (by unfold maxLen; omega) (by simp [bv])
  simpa [bv] using this
theorem lit8_reads (w : World) (l : List Int) (h : l.length ≤ 1000) : Reads (w.alloc (.cells (bv l).toArray 5)) (w.alloc (.cells (bv l).toArray 5)).heap.size 1 (some ⟨w.heap.size, 0, none⟩) l.length (bv l) := Reads.of_own (lit8 w l h)
set_option maxHeartbeats 4000000 in
theorem encode_c (p : PSeg) (w : World) (B : Nat) (h : SegAt w B p.s p.A p.kap) (hB : B ≤ w.heap.size) :
    Calls Try.prog 12 #[.agg #[.int .i64 p.s.off, .slice p.A p.s.data.length p.kap, .bool p.s.last]] w (Encs w p.s) := by
  obtain ⟨ii, hii, hz0, hz1, hz2⟩ := info_parts info5
  have hm := Nat.le_trans h.le h.max
  have HS := Kept.mk h
  have hmx := hm
  unfold maxLen at hmx
  clear h
  by_cases hv : validB p.s = true
  · have HV := Kept.mk hv
    have HCB := Kept.mk (codeP_bytes hv HS.out.by_)
    obtain ⟨x1, x2, x3⟩ := valid_iff.1 hv
    clear hv
    have x4 : (p.s.data.length : Int) ≤ 64 := by omega
    have x5 : (0 : Int) ≤ p.s.data.length := by omega
    unfold Encs encP
    rw [HV.out]
    simp only [if_true]
    rcases hl : p.s.last with _ | _
    · have HH : Kept (headP p.s = [0, p.s.off / 1099511627776, p.s.off / 4294967296 % 256, p.s.off / 16777216 % 256, p.s.off / 65536 % 256, p.s.off / 256 % 256, p.s.off % 256, p.s.data.length]) := ⟨by unfold headP; rw [hl]; rfl⟩
      have ec := valid_c p.s p.A p.kap (w.alloc (.cells #[.int .i64 p.s.off, .slice p.A p.s.data.length p.kap, .bool p.s.last] 24)) hm
      unfold segVal at ec
      rw [hl] at ec
      rw [HV.out] at ec
      have EC := Kept.mk ec
      clear ec hl
      go_enter Try.func12, Try.ntmps12
      go_wp2_with (first | (go_at_call 14; refine EC.out.mono ?_; rintro e w1 ⟨rfl, hb1⟩; obtain ⟨hc, hf⟩ := bcell hb1; have hj := Kept.mk (join (w := w) (by go_grown) hb1); have hz := lt1 (w := w) (by simp) hb1; have HO1 : Kept (((w1.alloc (.cells #[] 5)).alloc (.cells (bv [0, p.s.off / 1099511627776, p.s.off / 4294967296 % 256, p.s.off / 16777216 % 256, p.s.off / 65536 % 256, p.s.off / 256 % 256, p.s.off % 256, p.s.data.length]).toArray 5)).ownsRow w.heap.size 5 1 (.slice (some ⟨w1.heap.size, 0, none⟩) 0 0) 0 []) := ⟨(World.ownsRow_lit (base := w.heap.size) (e := 5) (size := 1) w1 #[] 0 hj.out.size (by unfold maxLen; omega) rfl).alloc _⟩; have HR1 := Kept.mk (lit8_reads (w1.alloc (.cells #[] 5)) [0, p.s.off / 1099511627776, p.s.off / 4294967296 % 256, p.s.off / 16777216 % 256, p.s.off / 65536 % 256, p.s.off / 256 % 256, p.s.off % 256, p.s.data.length] (by simp)); clear hb1) | (at_builtin; refine wpList_append_any _ rfl (.tmp 14) (.tmp 37) 22 rfl w.heap.size 5 ii _ 1 1 Try.underlying22 hii hz0 hz1 hz2 rfl (by omega) _ 0 [] rfl HO1.out _ (some ⟨w1.heap.size + 1, 0, none⟩) 8 8 (bv [0, p.s.off / 1099511627776, p.s.off / 4294967296 % 256, p.s.off / 16777216 % 256, p.s.off / 65536 % 256, p.s.off / 256 % 256, p.s.off % 256, p.s.data.length]) rfl (by have := HR1.out; simpa [bv] using this) (bv_one _) (by unfold maxLen; omega) (by omega) (by have := hj.out.size; simp only [World.size_alloc]; omega) ?_; intro v2 w2 ho2 hg2 _; simp only [Nat.zero_add, List.nil_append] at ho2; have HO2 := Kept.mk ho2; have hj2 : Kept (Below w.heap.size w w2) := ⟨((hj.out.alloc hj.out.size _).alloc (by have := hj.out.size; simp only [World.size_alloc]; omega) _).grown hg2 (by have := hj.out.size; simp only [World.size_alloc]; omega) (fun g hg => by have := hj.out.size; cases hg; show w.heap.size ≤ w1.heap.size; omega)⟩; have c1 : w2.cell? ⟨w.heap.size, 1, none⟩ = some (.slice p.A p.s.data.length p.kap) := (World.cell?_of_block (a := ⟨w.heap.size, 1, none⟩) (hg2.block w.heap.size (by simp only [World.size_alloc]; omega) (fun e => absurd (Option.some.inj e) (Nat.ne_of_lt hz)))).trans (by simp [World.cell?_alloc_lt, hc, hz, Nat.lt_succ_of_lt hz]); have lz : w.heap.size < w2.heap.size := Nat.lt_of_lt_of_le (by simp only [World.size_alloc]; omega) hg2.size; have HR2 := Kept.mk (HS.out.rd.below (hj2.out.mono hB)); clear ho2 hg2) | (at_builtin; refine wpList_append_any _ rfl (.tmp 39) (.tmp 41) 22 rfl w.heap.size 5 ii _ 1 1 Try.underlying22 hii hz0 hz1 hz2 rfl (by omega) v2 8 _ rfl HO2.out B p.A p.s.data.length p.kap (bv p.s.data) rfl HR2.out (bv_one _) (by unfold maxLen; omega) (by omega) (hj2.out.size) ?_; intro v3 w3 ho3 hg3 _; have HO3 := Kept.mk ho3; have hj3 : Kept (Below w.heap.size w w3) := ⟨hj2.out.grown hg3 hj2.out.size (fun g hg => (HO2.out.lt g hg).1)⟩; clear ho3 hg3))
      go_ret2
      exact ⟨v3, rfl, HCB.out, by rw [codeP_len]; unfold codeP; rw [bv_app, HH.out]; exact HO3.out, hj3.out⟩
    · have HH : Kept (headP p.s = [1, p.s.off / 1099511627776, p.s.off / 4294967296 % 256, p.s.off / 16777216 % 256, p.s.off / 65536 % 256, p.s.off / 256 % 256, p.s.off % 256, p.s.data.length]) := ⟨by unfold headP; rw [hl]; rfl⟩
      have ec := valid_c p.s p.A p.kap (w.alloc (.cells #[.int .i64 p.s.off, .slice p.A p.s.data.length p.kap, .bool p.s.last] 24)) hm
      unfold segVal at ec
      rw [hl] at ec
      rw [HV.out] at ec
      have EC := Kept.mk ec
      clear ec hl
      go_enter Try.func12, Try.ntmps12
      go_wp2_with (first | (go_at_call 14; refine EC.out.mono ?_; rintro e w1 ⟨rfl, hb1⟩; obtain ⟨hc, hf⟩ := bcell hb1; have hj := Kept.mk (join (w := w) (by go_grown) hb1); have hz := lt1 (w := w) (by simp) hb1; have HO1 : Kept (((w1.alloc (.cells #[] 5)).alloc (.cells (bv [1, p.s.off / 1099511627776, p.s.off / 4294967296 % 256, p.s.off / 16777216 % 256, p.s.off / 65536 % 256, p.s.off / 256 % 256, p.s.off % 256, p.s.data.length]).toArray 5)).ownsRow w.heap.size 5 1 (.slice (some ⟨w1.heap.size, 0, none⟩) 0 0) 0 []) := ⟨(World.ownsRow_lit (base := w.heap.size) (e := 5) (size := 1) w1 #[] 0 hj.out.size (by unfold maxLen; omega) rfl).alloc _⟩; have HR1 := Kept.mk (lit8_reads (w1.alloc (.cells #[] 5)) [1, p.s.off / 1099511627776, p.s.off / 4294967296 % 256, p.s.off / 16777216 % 256, p.s.off / 65536 % 256, p.s.off / 256 % 256, p.s.off % 256, p.s.data.length] (by simp)); clear hb1) | (at_builtin; refine wpList_append_any _ rfl (.tmp 14) (.tmp 37) 22 rfl w.heap.size 5 ii _ 1 1 Try.underlying22 hii hz0 hz1 hz2 rfl (by omega) _ 0 [] rfl HO1.out _ (some ⟨w1.heap.size + 1, 0, none⟩) 8 8 (bv [1, p.s.off / 1099511627776, p.s.off / 4294967296 % 256, p.s.off / 16777216 % 256, p.s.off / 65536 % 256, p.s.off / 256 % 256, p.s.off % 256, p.s.data.length]) rfl (by have := HR1.out; simpa [bv] using this) (bv_one _) (by unfold maxLen; omega) (by omega) (by have := hj.out.size; simp only [World.size_alloc]; omega) ?_; intro v2 w2 ho2 hg2 _; simp only [Nat.zero_add, List.nil_append] at ho2; have HO2 := Kept.mk ho2; have hj2 : Kept (Below w.heap.size w w2) := ⟨((hj.out.alloc hj.out.size _).alloc (by have := hj.out.size; simp only [World.size_alloc]; omega) _).grown hg2 (by have := hj.out.size; simp only [World.size_alloc]; omega) (fun g hg => by have := hj.out.size; cases hg; show w.heap.size ≤ w1.heap.size; omega)⟩; have c1 : w2.cell? ⟨w.heap.size, 1, none⟩ = some (.slice p.A p.s.data.length p.kap) := (World.cell?_of_block (a := ⟨w.heap.size, 1, none⟩) (hg2.block w.heap.size (by simp only [World.size_alloc]; omega) (fun e => absurd (Option.some.inj e) (Nat.ne_of_lt hz)))).trans (by simp [World.cell?_alloc_lt, hc, hz, Nat.lt_succ_of_lt hz]); have lz : w.heap.size < w2.heap.size := Nat.lt_of_lt_of_le (by simp only [World.size_alloc]; omega) hg2.size; have HR2 := Kept.mk (HS.out.rd.below (hj2.out.mono hB)); clear ho2 hg2) | (at_builtin; refine wpList_append_any _ rfl (.tmp 39) (.tmp 41) 22 rfl w.heap.size 5 ii _ 1 1 Try.underlying22 hii hz0 hz1 hz2 rfl (by omega) v2 8 _ rfl HO2.out B p.A p.s.data.length p.kap (bv p.s.data) rfl HR2.out (bv_one _) (by unfold maxLen; omega) (by omega) (hj2.out.size) ?_; intro v3 w3 ho3 hg3 _; have HO3 := Kept.mk ho3; have hj3 : Kept (Below w.heap.size w w3) := ⟨hj2.out.grown hg3 hj2.out.size (fun g hg => (HO2.out.lt g hg).1)⟩; clear ho3 hg3))
      go_ret2
      exact ⟨v3, rfl, HCB.out, by rw [codeP_len]; unfold codeP; rw [bv_app, HH.out]; exact HO3.out, hj3.out⟩
  · have HV : Kept (validB p.s = false) := ⟨by simpa using hv⟩
    clear hv
    have ec := valid_c p.s p.A p.kap (w.alloc (.cells #[.int .i64 p.s.off, .slice p.A p.s.data.length p.kap, .bool p.s.last] 24)) hm
    unfold segVal at ec
    rw [HV.out] at ec
    have EC := Kept.mk ec
    clear ec
    unfold Encs encP
    rw [HV.out]
    simp only [Bool.false_eq_true, if_false]
    go_enter Try.func12, Try.ntmps12
    go_wp2_with (go_at_call 14; refine EC.out.mono ?_; rintro e w1 ⟨rfl, hb1⟩; obtain ⟨hc, hf⟩ := bcell hb1; have hj := Kept.mk (join (w := w) (by go_grown) hb1); have hz := lt1 (w := w) (by simp) hb1; clear hb1)
    go_ret2
    exact ⟨_, rfl, (fun x hx => by simp at hx), World.ownsRow_nil _ _ _ _, hj.out⟩
end Go.Proofs.Ytdhajibegkkeiaa
