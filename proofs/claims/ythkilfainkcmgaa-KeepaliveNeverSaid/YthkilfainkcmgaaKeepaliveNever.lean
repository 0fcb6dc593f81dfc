/- For all clocks, periods and delays the statement KeepaliveNever returns true: if the periods are safe, a peer that is alive never causes an alarm. No condition. -/
import Derived.Test.YthkilfainkcmgaaBase
import Derived.Test.YthkilfainkcmgaaNever
import Derived.Test.YthkilfainkcmgaaMaps
namespace Go.Proofs.Ythkilfainkcmgaa
open Go.ChangeShapes Go.WideShapes Go.ChangeAt Go.RowKit
set_option linter.unusedVariables false
set_option linter.unusedSimpArgs false
theorem clk_of {s n d p : Int} (h : withinB s n d p = true) (h2 : s ≤ 536870912) : Clk s n d p := by
  obtain ⟨hv, ⟨p0, p1⟩, h3, h4⟩ := within_iff.1 h
  obtain ⟨b1, b2, b3, b4, b5, b6, b7, b8⟩ := valid_iff.1 hv
  exact ⟨b7, h2, b1, b3, b6, p0, p1, h3, h4⟩
theorem show_at {s n d : Int} {t : Nat} (hv : validB s n d = true) (ht : t ≤ 1000) : showV s n d t = cx s n d t ∧ showE s n d t = 0 := by
  have hi : insideB (t : Int) 1073741824 = true := inside_iff.2 ⟨by omega, by omega⟩
  exact ⟨by simp [showV, hv, hi, cx], by simp [showE, hv, hi]⟩
theorem zeroB (w : World) : (zeroValue 4).run Try.prog w = .ok (.bool false) w := by kernel_rfl
def mapF (A : Int → Bool) (x : Int) : Option Value := if A x = true then some (.bool true) else none
theorem mapF_get (A : Int → Bool) (x : Int) : (mapF A x).getD (.bool false) = .bool (A x) := by unfold mapF; cases A x <;> rfl
theorem mapF_sent (A : Int → Bool) (z x : Int) : (if x = z then some (Value.bool true) else mapF A x) = mapF (sentA A true z) x := by
  by_cases h : x = z <;> simp [mapF, sentA, mark, h]
/-- The worlds of the rounds. -/
structure NW (w : World) (B1 B2 M CA CB : Nat) (a0 a1 a2 b0 b1 b2 e D H y : Int) (t s r : Nat) (pr mi : St) (A : Int → Bool) (wr : World) : Prop where
  inv : NInv (cx a0 a1 a2) (cx b0 b1 b2) e D H y t pr mi A r
  pb : Blk wr B1 59 (wc pr)
  mb : Blk wr B2 59 (wc mi)
  map : MapI Try.prog 3 wr M s (mapF A)
  small : s ≤ t
  ca : Blk wr CA 52 #[.int .i64 a0, .int .i64 a1, .int .i64 a2]
  cb : Blk wr CB 52 #[.int .i64 b0, .int .i64 b1, .int .i64 b2]
  below : Below w.heap.size w wr
/-- The two clocks in memory. -/
structure NC (w : World) (CA CB : Nat) (a0 a1 a2 b0 b1 b2 : Int) (wr : World) : Prop where
  ca : Blk wr CA 52 #[.int .i64 a0, .int .i64 a1, .int .i64 a2]
  cb : Blk wr CB 52 #[.int .i64 b0, .int .i64 b1, .int .i64 b2]
  below : Below w.heap.size w wr
theorem NC.new_ {w wr w1 : World} {CA CB : Nat} {a0 a1 a2 b0 b1 b2 : Int} (h : NC w CA CB a0 a1 a2 b0 b1 b2 wr) (hb : Below wr.heap.size wr w1) : NC w CA CB a0 a1 a2 b0 b1 b2 w1 :=
  ⟨h.ca.new_ hb, h.cb.new_ hb, join h.below hb⟩
theorem NC.start (w : World) (a0 a1 a2 b0 b1 b2 : Int) : NC w w.heap.size (w.heap.size + 1) a0 a1 a2 b0 b1 b2 ((w.alloc (.cells #[.int .i64 a0, .int .i64 a1, .int .i64 a2] 52)).alloc (.cells #[.int .i64 b0, .int .i64 b1, .int .i64 b2] 52)) :=
  ⟨(Blk.new w 52 _).alloc _, by have := Blk.new (w.alloc (.cells #[.int .i64 a0, .int .i64 a1, .int .i64 a2] 52)) 52 #[.int .i64 b0, .int .i64 b1, .int .i64 b2]; simpa using this, ((Below.refl _ _).alloc (Nat.le_refl _) _).alloc (by simp) _⟩
set_option maxRecDepth 100000 in
set_option maxHeartbeats 8000000 in
theorem walkKeepaliveNever (a0_0 a0_1 a0_2 a1_0 a1_1 a1_2 a2 a3 a4 a5 : Int) (a6 : Option Addr) (len6 cap6 : Nat) (w : World) (w0_0 : (Lit.int .i64 a0_0).wf = true) (w0_1 : (Lit.int .i64 a0_1).wf = true) (w0_2 : (Lit.int .i64 a0_2).wf = true) (w1_0 : (Lit.int .i64 a1_0).wf = true) (w1_1 : (Lit.int .i64 a1_1).wf = true) (w1_2 : (Lit.int .i64 a1_2).wf = true) (w2 : (Lit.int .u8 a2).wf = true) (w3 : (Lit.int .u8 a3).wf = true) (w4 : (Lit.int .u8 a4).wf = true) (w5 : (Lit.int .i64 a5).wf = true) (w6 : IsRows w 1 IsByte a6 len6 cap6) :
    Calls Try.prog 8 #[.agg #[.int .i64 a0_0, .int .i64 a0_1, .int .i64 a0_2], .agg #[.int .i64 a1_0, .int .i64 a1_1, .int .i64 a1_2], .int .u8 a2, .int .u8 a3, .int .u8 a4, .int .i64 a5, .slice a6 len6 cap6] w fun e w' => e = .returned (.bool true) ∧ Below w.heap.size w w' := by
  obtain ⟨e0, e1⟩ := bounds_u8 w2
  obtain ⟨d0, d1⟩ := bounds_u8 w3
  obtain ⟨y0, y1⟩ := bounds_u8 w4
  obtain ⟨hcap, hmax, hrow⟩ := w6
  unfold maxLen at hmax
  clear w0_0 w0_1 w0_2 w1_0 w1_1 w1_2 w2 w3 w4 w5
  have HR := Kept.mk hrow
  clear hrow
  have HS0 := Kept.mk (NC.start w a0_0 a0_1 a0_2 a1_0 a1_1 a1_2)
  cases hwa : withinB a0_0 a0_1 a0_2 a5 with
  | false =>
    have HWa := Kept.mk hwa
    clear hwa

    go_enter Try.func8, Try.ntmps8
    go_wp2_with fail
    obtain ⟨W0, hW0⟩ : ∃ W0, W0 = (w.alloc (.cells #[.int .i64 a0_0, .int .i64 a0_1, .int .i64 a0_2] 52)).alloc (.cells #[.int .i64 a1_0, .int .i64 a1_1, .int .i64 a1_2] 52) := ⟨_, rfl⟩
    rw [← hW0] at HS0 ⊢
    clear hW0
    refine (awake_c _).mono ?_
    rintro e wa ⟨rfl, hba⟩
    have HSa := Kept.mk (HS0.out.new_ hba)
    clear hba
    have ca0 := HSa.out.ca.cell 0 (v := .int .i64 a0_0) rfl
    have ca1 := HSa.out.ca.cell 1 (v := .int .i64 a0_1) rfl
    have ca2 := HSa.out.ca.cell 2 (v := .int .i64 a0_2) rfl
    have cal := HSa.out.ca.lt
    have cb0 := HSa.out.cb.cell 0 (v := .int .i64 a1_0) rfl
    have cb1 := HSa.out.cb.cell 1 (v := .int .i64 a1_1) rfl
    have cb2 := HSa.out.cb.cell 2 (v := .int .i64 a1_2) rfl
    have cbl := HSa.out.cb.lt
    go_wp2_with fail
    refine (within_c _ _ _ _ _).mono ?_
    rintro e wxb ⟨rfl, hbb⟩
    rw [HWa.out]
    have HSb := Kept.mk (HSa.out.new_ hbb)
    clear hbb
    clear ca0 ca1 ca2 cal cb0 cb1 cb2 cbl
    go_wp2_with fail
    refine (awake_c _).mono ?_
    rintro e wz ⟨rfl, hbz⟩
    have HSz := Kept.mk (HSb.out.new_ hbz)
    clear hbz
    go_wp2_with fail
    go_ret
    exact ⟨rfl, HSz.out.below⟩
  | true =>
    have HWa := Kept.mk hwa
    obtain ⟨hva, ⟨p0, p1⟩, -, -⟩ := within_iff.1 hwa
    have HVa := Kept.mk hva
    have HLa := Kept.mk (fun h2 => clk_of hwa h2)
    clear hwa hva
    cases hwb : withinB a1_0 a1_1 a1_2 a5 with
    | false =>
      have HWb := Kept.mk hwb
      clear hwb

      go_enter Try.func8, Try.ntmps8
      go_wp2_with fail
      obtain ⟨W0, hW0⟩ : ∃ W0, W0 = (w.alloc (.cells #[.int .i64 a0_0, .int .i64 a0_1, .int .i64 a0_2] 52)).alloc (.cells #[.int .i64 a1_0, .int .i64 a1_1, .int .i64 a1_2] 52) := ⟨_, rfl⟩
      rw [← hW0] at HS0 ⊢
      clear hW0
      refine (awake_c _).mono ?_
      rintro e wa ⟨rfl, hba⟩
      have HSa := Kept.mk (HS0.out.new_ hba)
      clear hba
      have ca0 := HSa.out.ca.cell 0 (v := .int .i64 a0_0) rfl
      have ca1 := HSa.out.ca.cell 1 (v := .int .i64 a0_1) rfl
      have ca2 := HSa.out.ca.cell 2 (v := .int .i64 a0_2) rfl
      have cal := HSa.out.ca.lt
      have cb0 := HSa.out.cb.cell 0 (v := .int .i64 a1_0) rfl
      have cb1 := HSa.out.cb.cell 1 (v := .int .i64 a1_1) rfl
      have cb2 := HSa.out.cb.cell 2 (v := .int .i64 a1_2) rfl
      have cbl := HSa.out.cb.lt
      go_wp2_with fail
      refine (within_c _ _ _ _ _).mono ?_
      rintro e wxb ⟨rfl, hbb⟩
      rw [HWa.out]
      have HSb := Kept.mk (HSa.out.new_ hbb)
      clear hbb
      clear ca0 ca1 ca2 cal cb0 cb1 cb2 cbl
      have ca0 := HSb.out.ca.cell 0 (v := .int .i64 a0_0) rfl
      have ca1 := HSb.out.ca.cell 1 (v := .int .i64 a0_1) rfl
      have ca2 := HSb.out.ca.cell 2 (v := .int .i64 a0_2) rfl
      have cal := HSb.out.ca.lt
      have cb0 := HSb.out.cb.cell 0 (v := .int .i64 a1_0) rfl
      have cb1 := HSb.out.cb.cell 1 (v := .int .i64 a1_1) rfl
      have cb2 := HSb.out.cb.cell 2 (v := .int .i64 a1_2) rfl
      have cbl := HSb.out.cb.lt
      go_wp2_with fail
      refine (within_c _ _ _ _ _).mono ?_
      rintro e wxc ⟨rfl, hbc⟩
      rw [HWb.out]
      have HSc := Kept.mk (HSb.out.new_ hbc)
      clear hbc
      clear ca0 ca1 ca2 cal cb0 cb1 cb2 cbl
      have ca0 := HSc.out.ca.cell 0 (v := .int .i64 a0_0) rfl
      have ca1 := HSc.out.ca.cell 1 (v := .int .i64 a0_1) rfl
      have ca2 := HSc.out.ca.cell 2 (v := .int .i64 a0_2) rfl
      have cal := HSc.out.ca.lt
      have cb0 := HSc.out.cb.cell 0 (v := .int .i64 a1_0) rfl
      have cb1 := HSc.out.cb.cell 1 (v := .int .i64 a1_1) rfl
      have cb2 := HSc.out.cb.cell 2 (v := .int .i64 a1_2) rfl
      have cbl := HSc.out.cb.lt
      clear ca0 ca1 ca2 cal cb0 cb1 cb2 cbl
      go_wp2_with fail
      refine (awake_c _).mono ?_
      rintro e wz ⟨rfl, hbz⟩
      have HSz := Kept.mk (HSc.out.new_ hbz)
      clear hbz
      go_wp2_with fail
      go_ret
      exact ⟨rfl, HSz.out.below⟩
    | true =>
      have HWb := Kept.mk hwb
      obtain ⟨hvb, -, -, -⟩ := within_iff.1 hwb
      have HVb := Kept.mk hvb
      have HLb := Kept.mk (fun h2 => clk_of hwb h2)
      clear hwb hvb
      by_cases hsa : 536870912 < a0_0
      · go_enter Try.func8, Try.ntmps8
        go_wp2_with fail
        obtain ⟨W0, hW0⟩ : ∃ W0, W0 = (w.alloc (.cells #[.int .i64 a0_0, .int .i64 a0_1, .int .i64 a0_2] 52)).alloc (.cells #[.int .i64 a1_0, .int .i64 a1_1, .int .i64 a1_2] 52) := ⟨_, rfl⟩
        rw [← hW0] at HS0 ⊢
        clear hW0
        refine (awake_c _).mono ?_
        rintro e wa ⟨rfl, hba⟩
        have HSa := Kept.mk (HS0.out.new_ hba)
        clear hba
        have ca0 := HSa.out.ca.cell 0 (v := .int .i64 a0_0) rfl
        have ca1 := HSa.out.ca.cell 1 (v := .int .i64 a0_1) rfl
        have ca2 := HSa.out.ca.cell 2 (v := .int .i64 a0_2) rfl
        have cal := HSa.out.ca.lt
        have cb0 := HSa.out.cb.cell 0 (v := .int .i64 a1_0) rfl
        have cb1 := HSa.out.cb.cell 1 (v := .int .i64 a1_1) rfl
        have cb2 := HSa.out.cb.cell 2 (v := .int .i64 a1_2) rfl
        have cbl := HSa.out.cb.lt
        go_wp2_with fail
        refine (within_c _ _ _ _ _).mono ?_
        rintro e wxb ⟨rfl, hbb⟩
        rw [HWa.out]
        have HSb := Kept.mk (HSa.out.new_ hbb)
        clear hbb
        clear ca0 ca1 ca2 cal cb0 cb1 cb2 cbl
        have ca0 := HSb.out.ca.cell 0 (v := .int .i64 a0_0) rfl
        have ca1 := HSb.out.ca.cell 1 (v := .int .i64 a0_1) rfl
        have ca2 := HSb.out.ca.cell 2 (v := .int .i64 a0_2) rfl
        have cal := HSb.out.ca.lt
        have cb0 := HSb.out.cb.cell 0 (v := .int .i64 a1_0) rfl
        have cb1 := HSb.out.cb.cell 1 (v := .int .i64 a1_1) rfl
        have cb2 := HSb.out.cb.cell 2 (v := .int .i64 a1_2) rfl
        have cbl := HSb.out.cb.lt
        go_wp2_with fail
        refine (within_c _ _ _ _ _).mono ?_
        rintro e wxc ⟨rfl, hbc⟩
        rw [HWb.out]
        have HSc := Kept.mk (HSb.out.new_ hbc)
        clear hbc
        clear ca0 ca1 ca2 cal cb0 cb1 cb2 cbl
        have ca0 := HSc.out.ca.cell 0 (v := .int .i64 a0_0) rfl
        have ca1 := HSc.out.ca.cell 1 (v := .int .i64 a0_1) rfl
        have ca2 := HSc.out.ca.cell 2 (v := .int .i64 a0_2) rfl
        have cal := HSc.out.ca.lt
        have cb0 := HSc.out.cb.cell 0 (v := .int .i64 a1_0) rfl
        have cb1 := HSc.out.cb.cell 1 (v := .int .i64 a1_1) rfl
        have cb2 := HSc.out.cb.cell 2 (v := .int .i64 a1_2) rfl
        have cbl := HSc.out.cb.lt
        go_wp2_with fail
        refine (awake_c _).mono ?_
        rintro e wz ⟨rfl, hbz⟩
        have HSz := Kept.mk (HSc.out.new_ hbz)
        clear hbz
        go_wp2_with fail
        go_ret
        exact ⟨rfl, HSz.out.below⟩
      · by_cases hsb : 536870912 < a1_0
        · go_enter Try.func8, Try.ntmps8
          go_wp2_with fail
          obtain ⟨W0, hW0⟩ : ∃ W0, W0 = (w.alloc (.cells #[.int .i64 a0_0, .int .i64 a0_1, .int .i64 a0_2] 52)).alloc (.cells #[.int .i64 a1_0, .int .i64 a1_1, .int .i64 a1_2] 52) := ⟨_, rfl⟩
          rw [← hW0] at HS0 ⊢
          clear hW0
          refine (awake_c _).mono ?_
          rintro e wa ⟨rfl, hba⟩
          have HSa := Kept.mk (HS0.out.new_ hba)
          clear hba
          have ca0 := HSa.out.ca.cell 0 (v := .int .i64 a0_0) rfl
          have ca1 := HSa.out.ca.cell 1 (v := .int .i64 a0_1) rfl
          have ca2 := HSa.out.ca.cell 2 (v := .int .i64 a0_2) rfl
          have cal := HSa.out.ca.lt
          have cb0 := HSa.out.cb.cell 0 (v := .int .i64 a1_0) rfl
          have cb1 := HSa.out.cb.cell 1 (v := .int .i64 a1_1) rfl
          have cb2 := HSa.out.cb.cell 2 (v := .int .i64 a1_2) rfl
          have cbl := HSa.out.cb.lt
          go_wp2_with fail
          refine (within_c _ _ _ _ _).mono ?_
          rintro e wxb ⟨rfl, hbb⟩
          rw [HWa.out]
          have HSb := Kept.mk (HSa.out.new_ hbb)
          clear hbb
          clear ca0 ca1 ca2 cal cb0 cb1 cb2 cbl
          have ca0 := HSb.out.ca.cell 0 (v := .int .i64 a0_0) rfl
          have ca1 := HSb.out.ca.cell 1 (v := .int .i64 a0_1) rfl
          have ca2 := HSb.out.ca.cell 2 (v := .int .i64 a0_2) rfl
          have cal := HSb.out.ca.lt
          have cb0 := HSb.out.cb.cell 0 (v := .int .i64 a1_0) rfl
          have cb1 := HSb.out.cb.cell 1 (v := .int .i64 a1_1) rfl
          have cb2 := HSb.out.cb.cell 2 (v := .int .i64 a1_2) rfl
          have cbl := HSb.out.cb.lt
          go_wp2_with fail
          refine (within_c _ _ _ _ _).mono ?_
          rintro e wxc ⟨rfl, hbc⟩
          rw [HWb.out]
          have HSc := Kept.mk (HSb.out.new_ hbc)
          clear hbc
          clear ca0 ca1 ca2 cal cb0 cb1 cb2 cbl
          have ca0 := HSc.out.ca.cell 0 (v := .int .i64 a0_0) rfl
          have ca1 := HSc.out.ca.cell 1 (v := .int .i64 a0_1) rfl
          have ca2 := HSc.out.ca.cell 2 (v := .int .i64 a0_2) rfl
          have cal := HSc.out.ca.lt
          have cb0 := HSc.out.cb.cell 0 (v := .int .i64 a1_0) rfl
          have cb1 := HSc.out.cb.cell 1 (v := .int .i64 a1_1) rfl
          have cb2 := HSc.out.cb.cell 2 (v := .int .i64 a1_2) rfl
          have cbl := HSc.out.cb.lt
          go_wp2_with fail
          refine (awake_c _).mono ?_
          rintro e wz ⟨rfl, hbz⟩
          have HSz := Kept.mk (HSc.out.new_ hbz)
          clear hbz
          go_wp2_with fail
          go_ret
          exact ⟨rfl, HSz.out.below⟩
        · have HCa := Kept.mk (HLa.out (by omega))
          have HCb := Kept.mk (HLb.out (by omega))
          clear HLa HLb
          cases hsf : safeB a2 a3 a4 a5 with
          | false =>
            have HSF := Kept.mk hsf
            clear hsf

            go_enter Try.func8, Try.ntmps8
            go_wp2_with fail
            obtain ⟨W0, hW0⟩ : ∃ W0, W0 = (w.alloc (.cells #[.int .i64 a0_0, .int .i64 a0_1, .int .i64 a0_2] 52)).alloc (.cells #[.int .i64 a1_0, .int .i64 a1_1, .int .i64 a1_2] 52) := ⟨_, rfl⟩
            rw [← hW0] at HS0 ⊢
            clear hW0
            refine (awake_c _).mono ?_
            rintro e wa ⟨rfl, hba⟩
            have HSa := Kept.mk (HS0.out.new_ hba)
            clear hba
            have ca0 := HSa.out.ca.cell 0 (v := .int .i64 a0_0) rfl
            have ca1 := HSa.out.ca.cell 1 (v := .int .i64 a0_1) rfl
            have ca2 := HSa.out.ca.cell 2 (v := .int .i64 a0_2) rfl
            have cal := HSa.out.ca.lt
            have cb0 := HSa.out.cb.cell 0 (v := .int .i64 a1_0) rfl
            have cb1 := HSa.out.cb.cell 1 (v := .int .i64 a1_1) rfl
            have cb2 := HSa.out.cb.cell 2 (v := .int .i64 a1_2) rfl
            have cbl := HSa.out.cb.lt
            go_wp2_with fail
            refine (within_c _ _ _ _ _).mono ?_
            rintro e wxb ⟨rfl, hbb⟩
            rw [HWa.out]
            have HSb := Kept.mk (HSa.out.new_ hbb)
            clear hbb
            clear ca0 ca1 ca2 cal cb0 cb1 cb2 cbl
            have ca0 := HSb.out.ca.cell 0 (v := .int .i64 a0_0) rfl
            have ca1 := HSb.out.ca.cell 1 (v := .int .i64 a0_1) rfl
            have ca2 := HSb.out.ca.cell 2 (v := .int .i64 a0_2) rfl
            have cal := HSb.out.ca.lt
            have cb0 := HSb.out.cb.cell 0 (v := .int .i64 a1_0) rfl
            have cb1 := HSb.out.cb.cell 1 (v := .int .i64 a1_1) rfl
            have cb2 := HSb.out.cb.cell 2 (v := .int .i64 a1_2) rfl
            have cbl := HSb.out.cb.lt
            go_wp2_with fail
            refine (within_c _ _ _ _ _).mono ?_
            rintro e wxc ⟨rfl, hbc⟩
            rw [HWb.out]
            have HSc := Kept.mk (HSb.out.new_ hbc)
            clear hbc
            clear ca0 ca1 ca2 cal cb0 cb1 cb2 cbl
            have ca0 := HSc.out.ca.cell 0 (v := .int .i64 a0_0) rfl
            have ca1 := HSc.out.ca.cell 1 (v := .int .i64 a0_1) rfl
            have ca2 := HSc.out.ca.cell 2 (v := .int .i64 a0_2) rfl
            have cal := HSc.out.ca.lt
            have cb0 := HSc.out.cb.cell 0 (v := .int .i64 a1_0) rfl
            have cb1 := HSc.out.cb.cell 1 (v := .int .i64 a1_1) rfl
            have cb2 := HSc.out.cb.cell 2 (v := .int .i64 a1_2) rfl
            have cbl := HSc.out.cb.lt
            go_wp2_with fail
            refine (safe_c _ _ _ _ _).mono ?_
            rintro e wd ⟨rfl, hbd⟩
            rw [HSF.out]
            have HSd := Kept.mk (HSc.out.new_ hbd)
            clear hbd
            clear ca0 ca1 ca2 cal cb0 cb1 cb2 cbl
            go_wp2_with fail
            go_ret
            exact ⟨rfl, HSd.out.below⟩
          | true =>
            have hmm := @run_makeMap Try.prog
            have HSF := Kept.mk hsf
            simp only [safeB, Bool.and_eq_true, decide_eq_true_eq] at hsf
            obtain ⟨harg, hwait⟩ := hsf
            obtain ⟨⟨g1, g2, g3, g4⟩, g5, g6, g7, g8⟩ := arg_iff.1 harg
            have HP := Kept.mk (per_iff.2 (show 1 ≤ a2 ∧ a2 ≤ 1048576 ∧ a2 ≤ a3 ∧ a3 ≤ 1048576 from ⟨g1, g2, g3, g4⟩))
            have HWT := Kept.mk hwait
            have HHB := Kept.mk (high_bd2 (e := a2 - 1) (p := a5) (by omega) (by omega) p0 p1)
            clear harg hwait

            go_enter Try.func8, Try.ntmps8
            go_wp2_with fail
            obtain ⟨W0, hW0⟩ : ∃ W0, W0 = (w.alloc (.cells #[.int .i64 a0_0, .int .i64 a0_1, .int .i64 a0_2] 52)).alloc (.cells #[.int .i64 a1_0, .int .i64 a1_1, .int .i64 a1_2] 52) := ⟨_, rfl⟩
            rw [← hW0] at HS0 ⊢
            clear hW0
            refine (awake_c _).mono ?_
            rintro e wa ⟨rfl, hba⟩
            have HSa := Kept.mk (HS0.out.new_ hba)
            clear hba
            have ca0 := HSa.out.ca.cell 0 (v := .int .i64 a0_0) rfl
            have ca1 := HSa.out.ca.cell 1 (v := .int .i64 a0_1) rfl
            have ca2 := HSa.out.ca.cell 2 (v := .int .i64 a0_2) rfl
            have cal := HSa.out.ca.lt
            have cb0 := HSa.out.cb.cell 0 (v := .int .i64 a1_0) rfl
            have cb1 := HSa.out.cb.cell 1 (v := .int .i64 a1_1) rfl
            have cb2 := HSa.out.cb.cell 2 (v := .int .i64 a1_2) rfl
            have cbl := HSa.out.cb.lt
            go_wp2_with fail
            refine (within_c _ _ _ _ _).mono ?_
            rintro e wxb ⟨rfl, hbb⟩
            rw [HWa.out]
            have HSb := Kept.mk (HSa.out.new_ hbb)
            clear hbb
            clear ca0 ca1 ca2 cal cb0 cb1 cb2 cbl
            have ca0 := HSb.out.ca.cell 0 (v := .int .i64 a0_0) rfl
            have ca1 := HSb.out.ca.cell 1 (v := .int .i64 a0_1) rfl
            have ca2 := HSb.out.ca.cell 2 (v := .int .i64 a0_2) rfl
            have cal := HSb.out.ca.lt
            have cb0 := HSb.out.cb.cell 0 (v := .int .i64 a1_0) rfl
            have cb1 := HSb.out.cb.cell 1 (v := .int .i64 a1_1) rfl
            have cb2 := HSb.out.cb.cell 2 (v := .int .i64 a1_2) rfl
            have cbl := HSb.out.cb.lt
            go_wp2_with fail
            refine (within_c _ _ _ _ _).mono ?_
            rintro e wxc ⟨rfl, hbc⟩
            rw [HWb.out]
            have HSc := Kept.mk (HSb.out.new_ hbc)
            clear hbc
            clear ca0 ca1 ca2 cal cb0 cb1 cb2 cbl
            have ca0 := HSc.out.ca.cell 0 (v := .int .i64 a0_0) rfl
            have ca1 := HSc.out.ca.cell 1 (v := .int .i64 a0_1) rfl
            have ca2 := HSc.out.ca.cell 2 (v := .int .i64 a0_2) rfl
            have cal := HSc.out.ca.lt
            have cb0 := HSc.out.cb.cell 0 (v := .int .i64 a1_0) rfl
            have cb1 := HSc.out.cb.cell 1 (v := .int .i64 a1_1) rfl
            have cb2 := HSc.out.cb.cell 2 (v := .int .i64 a1_2) rfl
            have cbl := HSc.out.cb.lt
            go_wp2_with fail
            refine (safe_c _ _ _ _ _).mono ?_
            rintro e wd ⟨rfl, hbd⟩
            rw [HSF.out]
            have HSd := Kept.mk (HSc.out.new_ hbd)
            clear hbd
            clear ca0 ca1 ca2 cal cb0 cb1 cb2 cbl
            go_wp2_with fail
            refine (new_c _ _ _ HP.out).mono ?_
            rintro e we ⟨rfl, rfl⟩
            obtain ⟨B1, hB1⟩ : ∃ B1, B1 = wd.heap.size := ⟨_, rfl⟩
            have hbe : Below wd.heap.size wd (wd.alloc (.cells (wc (new a2 a3)) 59)) := (Below.refl _ _).alloc (Nat.le_refl _) _
            have HSe := Kept.mk (HSd.out.new_ hbe)
            have HB1 := Kept.mk (Blk.new wd 59 (wc (new a2 a3)))
            have hB1w : w.heap.size ≤ B1 := by have := HSd.out.below.size; omega
            clear hbe
            obtain ⟨W1, hW1⟩ : ∃ W1, W1 = wd.alloc (.cells (wc (new a2 a3)) 59) := ⟨_, rfl⟩
            rw [← hW1] at HSe HB1 ⊢
            rw [← hB1] at HB1 ⊢
            clear hW1 hB1
            go_wp2_with fail
            refine (new_c _ _ _ HP.out).mono ?_
            rintro e wf ⟨rfl, rfl⟩
            obtain ⟨B2, hB2⟩ : ∃ B2, B2 = W1.heap.size := ⟨_, rfl⟩
            have hbe : Below W1.heap.size W1 (W1.alloc (.cells (wc (new a2 a3)) 59)) := (Below.refl _ _).alloc (Nat.le_refl _) _
            have HSf := Kept.mk (HSe.out.new_ hbe)
            have HB1f := Kept.mk (HB1.out.new_ hbe)
            have HB2 := Kept.mk (Blk.new W1 59 (wc (new a2 a3)))
            have hB12 : B1 < B2 := by have := HB1.out.lt; omega
            clear hbe
            obtain ⟨W2, hW2⟩ : ∃ W2, W2 = W1.alloc (.cells (wc (new a2 a3)) 59) := ⟨_, rfl⟩
            rw [← hW2] at HSf HB1f HB2 ⊢
            rw [← hB2] at HB2 ⊢
            clear hW2 hB2 HB1 HSa HSb HSc HSd HSe HS0
            go_wp2_with fail
            have HN0 : Kept (NW w B1 B2 W2.heap.size w.heap.size (w.heap.size + 1) a0_0 a0_1 a0_2 a1_0 a1_1 a1_2 a2 a3 (highI (a2 - 1) a5) a4 0 0 0 (new a2 a3) (new a2 a3) (fun _ => false) (W2.alloc (.map #[] 0))) :=
              ⟨⟨ninv_zero _ _ _ _ _ _, HB1f.out.alloc _, HB2.out.alloc _, (MapI.made W2 Try.prog 3).cast rfl (fun x => by simp [mapF]), Nat.le_refl _, HSf.out.ca.alloc _, HSf.out.cb.alloc _, HSf.out.below.alloc HSf.out.below.size _⟩⟩
            have hMw : w.heap.size ≤ W2.heap.size := HSf.out.below.size
            obtain ⟨W3, hW3⟩ : ∃ W3, W3 = W2.alloc (.map #[] 0) := ⟨_, rfl⟩
            rw [← hW3] at HN0 ⊢
            clear hW3 HSf HB1f HB2
            obtain ⟨M, hM⟩ : ∃ M, M = W2.heap.size := ⟨_, rfl⟩
            rw [← hM] at HN0 hMw ⊢
            clear hM
            generalize new a2 a3 = st0 at *
            go_loopw [20, 88] (fun v20 v88 wr => ∃ (t n s r : Nat) (pr mi : St) (A : Int → Bool), t ≤ 400 ∧ n ≤ t ∧ v20 = .int .i64 n ∧ v88 = .int .i64 t ∧ Kept (NW w B1 B2 M w.heap.size (w.heap.size + 1) a0_0 a0_1 a0_2 a1_0 a1_1 a1_2 a2 a3 (highI (a2 - 1) a5) a4 t s r pr mi A wr)) (fun _ v88 _ => 400 - (intOf v88).toNat)
            case atStart => exact ⟨0, 0, 0, 0, st0, st0, _, by omega, by omega, rfl, rfl, HN0⟩
            case round =>
              obtain ⟨t, n, s, r, pr, mi, A, ht, hn, rfl, rfl, HT⟩ := hrel
              clear HN0
              by_cases hlt : t < 400
              · have HXa := Kept.mk (show_at (t := t) HVa.out (by omega))
                have HXb := Kept.mk (show_at (t := t) HVb.out (by omega))
                have hXa := cx_bd HCa.out t
                have hXb := cx_bd HCb.out t
                have s0a := HCa.out.s0
                have s1a := HCa.out.s1
                have s0b := HCb.out.s0
                have s1b := HCb.out.s1
                have HNX : Kept (∀ dd : Int, 0 ≤ dd → dd ≤ a4 → _) := ⟨fun dd d0 d1 => ninv_next HCa.out HCb.out HT.out.inv g1 (show t ≤ 1000 by omega) (dd := dd) d0 d1 (show 1 ≤ a3 by omega) HWT.out (by have := HHB.out; omega)⟩
                obtain ⟨x, hx⟩ : ∃ x, cx a0_0 a0_1 a0_2 t = x := ⟨_, rfl⟩
                obtain ⟨z, hz⟩ : ∃ z, cx a1_0 a1_1 a1_2 t = z := ⟨_, rfl⟩
                rw [hx] at HXa hXa HNX
                rw [hz] at HXb hXb HNX
                have x0 : 0 ≤ x := by omega
                have x1 : x ≤ 17179869184 := by omega
                have z0 : 0 ≤ z := by omega
                have z1 : z ≤ 17179869184 := by omega
                clear hx hz hXa hXb s0a s1a s0b s1b
                have hsm := HT.out.small
                have hfp := HT.out.inv.pfit
                have HFP := Kept.mk hfp
                clear hfp
                have HWA := Kept.mk (NC.mk HT.out.ca HT.out.cb HT.out.below)
                have ca0 := HWA.out.ca.cell 0 (v := .int .i64 a0_0) rfl
                have ca1 := HWA.out.ca.cell 1 (v := .int .i64 a0_1) rfl
                have ca2 := HWA.out.ca.cell 2 (v := .int .i64 a0_2) rfl
                have cal := HWA.out.ca.lt
                have cb0 := HWA.out.cb.cell 0 (v := .int .i64 a1_0) rfl
                have cb1 := HWA.out.cb.cell 1 (v := .int .i64 a1_1) rfl
                have cb2 := HWA.out.cb.cell 2 (v := .int .i64 a1_2) rfl
                have cbl := HWA.out.cb.lt
                go_wp2_with fail
                refine (show_c _ _ _ _ _).mono ?_
                rintro e w1 ⟨rfl, hb1⟩
                rw [HXa.out.1, HXa.out.2]
                have HW1 := Kept.mk (HWA.out.new_ hb1)
                have HP1 := Kept.mk (HT.out.pb.new_ hb1)
                have HM1 := Kept.mk (HT.out.mb.new_ hb1)
                have HD1 := Kept.mk (MapAt.new_ HT.out.map hb1)
                clear hb1 HWA
                clear ca0 ca1 ca2 cal cb0 cb1 cb2 cbl
                have ca0 := HW1.out.ca.cell 0 (v := .int .i64 a0_0) rfl
                have ca1 := HW1.out.ca.cell 1 (v := .int .i64 a0_1) rfl
                have ca2 := HW1.out.ca.cell 2 (v := .int .i64 a0_2) rfl
                have cal := HW1.out.ca.lt
                have cb0 := HW1.out.cb.cell 0 (v := .int .i64 a1_0) rfl
                have cb1 := HW1.out.cb.cell 1 (v := .int .i64 a1_1) rfl
                have cb2 := HW1.out.cb.cell 2 (v := .int .i64 a1_2) rfl
                have cbl := HW1.out.cb.lt
                go_wp2_with fail
                refine (show_c _ _ _ _ _).mono ?_
                rintro e w2 ⟨rfl, hb2⟩
                rw [HXb.out.1, HXb.out.2]
                have HW2 := Kept.mk (HW1.out.new_ hb2)
                have HP2 := Kept.mk (HP1.out.new_ hb2)
                have HM2 := Kept.mk (HM1.out.new_ hb2)
                have HD2 := Kept.mk (MapAt.new_ HD1.out hb2)
                clear hb2 HW1 HP1 HM1 HD1
                clear ca0 ca1 ca2 cal cb0 cb1 cb2 cbl
                go_wp2_with fail
                refine (tick_c pr x _ B1 HP2.out HFP.out x0 x1).mono ?_
                rintro e w3 ⟨rfl, h3, o3⟩
                have HP3 := Kept.mk h3
                have HM3 := Kept.mk (HM2.out.only o3 (by omega))
                have HD3 := Kept.mk (MapAt.only HD2.out o3 (MapAt.ne HD2.out HP2.out).symm)
                have HW3 : Kept (NC w w.heap.size (w.heap.size + 1) a0_0 a0_1 a0_2 a1_0 a1_1 a1_2 w3) := ⟨⟨HW2.out.ca.only o3 (Blk.ne_ HW2.out.ca HP2.out (by decide)), HW2.out.cb.only o3 (Blk.ne_ HW2.out.cb HP2.out (by decide)), HW2.out.below.trans (o3.below (B := w.heap.size) (by rintro j rfl; exact hB1w) HW2.out.below.size)⟩⟩
                generalize alarmT pr x = qa
                clear h3 o3 HP2 HM2 HD2 HW2
                cases hs : sendT pr x with
                | false =>
                  have HNX := Kept.mk (HNX.out 0 (by omega) (by omega))
                  rw [hs] at HNX
                  clear hs
                  have HA2 : Kept (sentA A false ((t : Int) + 0) = A) := ⟨rfl⟩
                  rw [HA2.out] at HNX
                  obtain ⟨A2, hA2⟩ : ∃ A2, A2 = A := ⟨_, rfl⟩
                  rw [← hA2] at HNX HD3
                  clear hA2 HA2
                  obtain ⟨hq, hf, hnext⟩ := HNX.out
                  have HQ := Kept.mk hq
                  have HF := Kept.mk hf
                  have HNN := Kept.mk hnext
                  clear hq hf hnext HNX
                  cases hat : A2 (t : Int) with
                  | true =>
                    rw [hat] at HQ HF HNN
                    have HAT := Kept.mk hat
                    clear hat
                    go_wp2_with (first  | (at_lookup; refine wpList_lookI rfl _ _ 54 rfl 3 4 Try.underlying3 Try.underlying54 (zeroB _) M _ (mapF A2) rfl HD3.out t rfl (WalkArith.wf_i64 (by omega)) ?_; rw [mapF_get, HAT.out]))
                    refine (heard_c mi z _ B2 HM3.out).mono ?_
                    rintro e w6 ⟨rfl, h6, o6⟩
                    have HM6 := Kept.mk h6
                    have HP6 := Kept.mk (HP3.out.only o6 (by omega))
                    have HD6 := Kept.mk (MapAt.only HD3.out o6 (MapAt.ne HD3.out HM3.out).symm)
                    have HW6 : Kept (NC w w.heap.size (w.heap.size + 1) a0_0 a0_1 a0_2 a1_0 a1_1 a1_2 w6) := ⟨⟨HW3.out.ca.only o6 (Blk.ne_ HW3.out.ca HM3.out (by decide)), HW3.out.cb.only o6 (Blk.ne_ HW3.out.cb HM3.out (by decide)), HW3.out.below.trans (o6.below (B := w.heap.size) (by rintro j rfl; omega) HW3.out.below.size)⟩⟩
                    clear h6 o6
                    have HS6 : Kept (heardS true mi z = heard mi z) := ⟨rfl⟩
                    rw [HS6.out] at HQ HF HNN
                    go_wp2_with fail
                    refine (tick_c (heard mi z) z _ B2 HM6.out HF.out z0 z1).mono ?_
                    rintro e w7 ⟨rfl, h7, o7⟩
                    rw [HQ.out]
                    have HM7 := Kept.mk h7
                    have HP7 := Kept.mk (HP6.out.only o7 (by omega))
                    have HD7 := Kept.mk (MapAt.only HD6.out o7 (MapAt.ne HD6.out HM6.out).symm)
                    have HW7 : Kept (NC w w.heap.size (w.heap.size + 1) a0_0 a0_1 a0_2 a1_0 a1_1 a1_2 w7) := ⟨⟨HW6.out.ca.only o7 (Blk.ne_ HW6.out.ca HM6.out (by decide)), HW6.out.cb.only o7 (Blk.ne_ HW6.out.cb HM6.out (by decide)), HW6.out.below.trans (o7.below (B := w.heap.size) (by rintro j rfl; omega) HW6.out.below.size)⟩⟩
                    generalize sendT (heard mi z) z = sx
                    generalize tick (heard mi z) z = mi2 at *
                    generalize tick pr x = pr2 at *
                    clear h7 o7
                    go_wp2_with fail
                    go_roundw
                    case rel => exact ⟨t + 1, n, _, _, pr2, mi2, A2, by omega, by omega, by go_num, by go_num, ⟨⟨HNN.out, HP7.out, HM7.out, HD7.out, by omega, HW7.out.ca, HW7.out.cb, HW7.out.below⟩⟩⟩
                    case measure => simp [intOf]; omega
                  | false =>
                    rw [hat] at HQ HF HNN
                    have HAT := Kept.mk hat
                    clear hat
                    go_wp2_with (first  | (at_lookup; refine wpList_lookI rfl _ _ 54 rfl 3 4 Try.underlying3 Try.underlying54 (zeroB _) M _ (mapF A2) rfl HD3.out t rfl (WalkArith.wf_i64 (by omega)) ?_; rw [mapF_get, HAT.out]))
                    have HS6 : Kept (heardS false mi z = mi) := ⟨rfl⟩
                    rw [HS6.out] at HQ HF HNN
                    refine (tick_c mi z _ B2 HM3.out HF.out z0 z1).mono ?_
                    rintro e w7 ⟨rfl, h7, o7⟩
                    rw [HQ.out]
                    have HM7 := Kept.mk h7
                    have HP7 := Kept.mk (HP3.out.only o7 (by omega))
                    have HD7 := Kept.mk (MapAt.only HD3.out o7 (MapAt.ne HD3.out HM3.out).symm)
                    have HW7 : Kept (NC w w.heap.size (w.heap.size + 1) a0_0 a0_1 a0_2 a1_0 a1_1 a1_2 w7) := ⟨⟨HW3.out.ca.only o7 (Blk.ne_ HW3.out.ca HM3.out (by decide)), HW3.out.cb.only o7 (Blk.ne_ HW3.out.cb HM3.out (by decide)), HW3.out.below.trans (o7.below (B := w.heap.size) (by rintro j rfl; omega) HW3.out.below.size)⟩⟩
                    generalize sendT mi z = sx
                    generalize tick mi z = mi2 at *
                    generalize tick pr x = pr2 at *
                    clear h7 o7
                    go_wp2_with fail
                    go_roundw
                    case rel => exact ⟨t + 1, n, _, _, pr2, mi2, A2, by omega, by omega, by go_num, by go_num, ⟨⟨HNN.out, HP7.out, HM7.out, HD7.out, by omega, HW7.out.ca, HW7.out.cb, HW7.out.below⟩⟩⟩
                    case measure => simp [intOf]; omega
                | true =>
                  by_cases h6 : 0 < len6
                  · obtain ⟨bb, off, rfl, hbb, hel⟩ := HR.out h6
                    obtain ⟨ky, hky, hky2⟩ : ∃ ky : Nat, (n : Int) % (len6 : Int) = (ky : Int) ∧ ky < len6 := ⟨n % len6, by simp, Nat.mod_lt _ h6⟩
                    obtain ⟨cs, ⟨v, rfl, v0, v1⟩, hcell⟩ := hel ky hky2
                    have hc3 := (HW3.out.below.cell (p := ⟨bb, off + ky * 1 + 0, none⟩) hbb).trans (hcell 0 _ rfl)
                    rw [show off + ky * 1 + 0 = off + ky by omega] at hc3
                    have q1 : 0 ≤ v % (a4 + 1) := Int.emod_nonneg v (by omega)
                    have q2 : v % (a4 + 1) ≤ a4 := by have := Int.emod_lt_of_pos v (show 0 < a4 + 1 by omega); omega
                    clear hel hcell
                    have HNX := Kept.mk (HNX.out (v % (a4 + 1)) (by omega) (by omega))
                    rw [hs] at HNX
                    clear hs
                    obtain ⟨A2, hA2⟩ : ∃ A2, A2 = sentA A true ((t : Int) + (v % (a4 + 1))) := ⟨_, rfl⟩
                    rw [← hA2] at HNX
                    have HAE := Kept.mk hA2
                    clear hA2
                    obtain ⟨hq, hf, hnext⟩ := HNX.out
                    have HQ := Kept.mk hq
                    have HF := Kept.mk hf
                    have HNN := Kept.mk hnext
                    clear hq hf hnext HNX
                    cases hat : A2 (t : Int) with
                    | true =>
                      rw [hat] at HQ HF HNN
                      have HAT := Kept.mk hat
                      clear hat
                      go_wp2_with (first | (at_mapUpdate; refine wpList_setI rfl _ _ _ 54 rfl 3 4 Try.underlying3 Try.underlying54 M s (mapF A) rfl HD3.out (by unfold maxLen; omega) ((t : Int) + (v % (a4 + 1))) (.bool true) (by first | rfl | go_num) rfl (WalkArith.wf_i64 (by omega)) ?_; intro w4 hm4 hg4; obtain ⟨s4, hs4, HD4⟩ : ∃ s4, s4 ≤ s + 1 ∧ Kept (MapI Try.prog 3 w4 M s4 (mapF A2)) := ⟨_, (by split <;> omega), ⟨hm4.cast rfl (fun x => by rw [mapF_sent, HAE.out])⟩⟩; have HP4 := Kept.mk (HP3.out.grown hg4 (by have := MapAt.ne HD3.out HP3.out; simpa using this)); have HM4 := Kept.mk (HM3.out.grown hg4 (by have := MapAt.ne HD3.out HM3.out; simpa using this)); have HW4 : Kept (NC w w.heap.size (w.heap.size + 1) a0_0 a0_1 a0_2 a1_0 a1_1 a1_2 w4) := ⟨⟨HW3.out.ca.grown hg4 (by have := MapAt.ne HD3.out HW3.out.ca; simpa using this), HW3.out.cb.grown hg4 (by have := MapAt.ne HD3.out HW3.out.cb; simpa using this), HW3.out.below.grown hg4 HW3.out.below.size (by intro k hk; injection hk with hk; omega)⟩⟩; clear hm4 hg4)  | (at_lookup; refine wpList_lookI rfl _ _ 54 rfl 3 4 Try.underlying3 Try.underlying54 (zeroB _) M _ (mapF A2) rfl HD4.out t rfl (WalkArith.wf_i64 (by omega)) ?_; rw [mapF_get, HAT.out]))
                      refine (heard_c mi z _ B2 HM4.out).mono ?_
                      rintro e w6 ⟨rfl, h6, o6⟩
                      have HM6 := Kept.mk h6
                      have HP6 := Kept.mk (HP4.out.only o6 (by omega))
                      have HD6 := Kept.mk (MapAt.only HD4.out o6 (MapAt.ne HD4.out HM4.out).symm)
                      have HW6 : Kept (NC w w.heap.size (w.heap.size + 1) a0_0 a0_1 a0_2 a1_0 a1_1 a1_2 w6) := ⟨⟨HW4.out.ca.only o6 (Blk.ne_ HW4.out.ca HM4.out (by decide)), HW4.out.cb.only o6 (Blk.ne_ HW4.out.cb HM4.out (by decide)), HW4.out.below.trans (o6.below (B := w.heap.size) (by rintro j rfl; omega) HW4.out.below.size)⟩⟩
                      clear h6 o6
                      have HS6 : Kept (heardS true mi z = heard mi z) := ⟨rfl⟩
                      rw [HS6.out] at HQ HF HNN
                      go_wp2_with fail
                      refine (tick_c (heard mi z) z _ B2 HM6.out HF.out z0 z1).mono ?_
                      rintro e w7 ⟨rfl, h7, o7⟩
                      rw [HQ.out]
                      have HM7 := Kept.mk h7
                      have HP7 := Kept.mk (HP6.out.only o7 (by omega))
                      have HD7 := Kept.mk (MapAt.only HD6.out o7 (MapAt.ne HD6.out HM6.out).symm)
                      have HW7 : Kept (NC w w.heap.size (w.heap.size + 1) a0_0 a0_1 a0_2 a1_0 a1_1 a1_2 w7) := ⟨⟨HW6.out.ca.only o7 (Blk.ne_ HW6.out.ca HM6.out (by decide)), HW6.out.cb.only o7 (Blk.ne_ HW6.out.cb HM6.out (by decide)), HW6.out.below.trans (o7.below (B := w.heap.size) (by rintro j rfl; omega) HW6.out.below.size)⟩⟩
                      generalize sendT (heard mi z) z = sx
                      generalize tick (heard mi z) z = mi2 at *
                      generalize tick pr x = pr2 at *
                      clear h7 o7
                      go_wp2_with fail
                      go_roundw
                      case rel => exact ⟨t + 1, n + 1, _, _, pr2, mi2, A2, by omega, by omega, by go_num, by go_num, ⟨⟨HNN.out, HP7.out, HM7.out, HD7.out, by omega, HW7.out.ca, HW7.out.cb, HW7.out.below⟩⟩⟩
                      case measure => simp [intOf]; omega
                    | false =>
                      rw [hat] at HQ HF HNN
                      have HAT := Kept.mk hat
                      clear hat
                      go_wp2_with (first | (at_mapUpdate; refine wpList_setI rfl _ _ _ 54 rfl 3 4 Try.underlying3 Try.underlying54 M s (mapF A) rfl HD3.out (by unfold maxLen; omega) ((t : Int) + (v % (a4 + 1))) (.bool true) (by first | rfl | go_num) rfl (WalkArith.wf_i64 (by omega)) ?_; intro w4 hm4 hg4; obtain ⟨s4, hs4, HD4⟩ : ∃ s4, s4 ≤ s + 1 ∧ Kept (MapI Try.prog 3 w4 M s4 (mapF A2)) := ⟨_, (by split <;> omega), ⟨hm4.cast rfl (fun x => by rw [mapF_sent, HAE.out])⟩⟩; have HP4 := Kept.mk (HP3.out.grown hg4 (by have := MapAt.ne HD3.out HP3.out; simpa using this)); have HM4 := Kept.mk (HM3.out.grown hg4 (by have := MapAt.ne HD3.out HM3.out; simpa using this)); have HW4 : Kept (NC w w.heap.size (w.heap.size + 1) a0_0 a0_1 a0_2 a1_0 a1_1 a1_2 w4) := ⟨⟨HW3.out.ca.grown hg4 (by have := MapAt.ne HD3.out HW3.out.ca; simpa using this), HW3.out.cb.grown hg4 (by have := MapAt.ne HD3.out HW3.out.cb; simpa using this), HW3.out.below.grown hg4 HW3.out.below.size (by intro k hk; injection hk with hk; omega)⟩⟩; clear hm4 hg4)  | (at_lookup; refine wpList_lookI rfl _ _ 54 rfl 3 4 Try.underlying3 Try.underlying54 (zeroB _) M _ (mapF A2) rfl HD4.out t rfl (WalkArith.wf_i64 (by omega)) ?_; rw [mapF_get, HAT.out]))
                      have HS6 : Kept (heardS false mi z = mi) := ⟨rfl⟩
                      rw [HS6.out] at HQ HF HNN
                      refine (tick_c mi z _ B2 HM4.out HF.out z0 z1).mono ?_
                      rintro e w7 ⟨rfl, h7, o7⟩
                      rw [HQ.out]
                      have HM7 := Kept.mk h7
                      have HP7 := Kept.mk (HP4.out.only o7 (by omega))
                      have HD7 := Kept.mk (MapAt.only HD4.out o7 (MapAt.ne HD4.out HM4.out).symm)
                      have HW7 : Kept (NC w w.heap.size (w.heap.size + 1) a0_0 a0_1 a0_2 a1_0 a1_1 a1_2 w7) := ⟨⟨HW4.out.ca.only o7 (Blk.ne_ HW4.out.ca HM4.out (by decide)), HW4.out.cb.only o7 (Blk.ne_ HW4.out.cb HM4.out (by decide)), HW4.out.below.trans (o7.below (B := w.heap.size) (by rintro j rfl; omega) HW4.out.below.size)⟩⟩
                      generalize sendT mi z = sx
                      generalize tick mi z = mi2 at *
                      generalize tick pr x = pr2 at *
                      clear h7 o7
                      go_wp2_with fail
                      go_roundw
                      case rel => exact ⟨t + 1, n + 1, _, _, pr2, mi2, A2, by omega, by omega, by go_num, by go_num, ⟨⟨HNN.out, HP7.out, HM7.out, HD7.out, by omega, HW7.out.ca, HW7.out.cb, HW7.out.below⟩⟩⟩
                      case measure => simp [intOf]; omega
                  · have HNX := Kept.mk (HNX.out 0 (by omega) (by omega))
                    rw [hs] at HNX
                    clear hs
                    obtain ⟨A2, hA2⟩ : ∃ A2, A2 = sentA A true ((t : Int) + 0) := ⟨_, rfl⟩
                    rw [← hA2] at HNX
                    have HAE := Kept.mk hA2
                    clear hA2
                    obtain ⟨hq, hf, hnext⟩ := HNX.out
                    have HQ := Kept.mk hq
                    have HF := Kept.mk hf
                    have HNN := Kept.mk hnext
                    clear hq hf hnext HNX
                    cases hat : A2 (t : Int) with
                    | true =>
                      rw [hat] at HQ HF HNN
                      have HAT := Kept.mk hat
                      clear hat
                      go_wp2_with (first | (at_mapUpdate; refine wpList_setI rfl _ _ _ 54 rfl 3 4 Try.underlying3 Try.underlying54 M s (mapF A) rfl HD3.out (by unfold maxLen; omega) ((t : Int) + 0) (.bool true) (by first | rfl | go_num) rfl (WalkArith.wf_i64 (by omega)) ?_; intro w4 hm4 hg4; obtain ⟨s4, hs4, HD4⟩ : ∃ s4, s4 ≤ s + 1 ∧ Kept (MapI Try.prog 3 w4 M s4 (mapF A2)) := ⟨_, (by split <;> omega), ⟨hm4.cast rfl (fun x => by rw [mapF_sent, HAE.out])⟩⟩; have HP4 := Kept.mk (HP3.out.grown hg4 (by have := MapAt.ne HD3.out HP3.out; simpa using this)); have HM4 := Kept.mk (HM3.out.grown hg4 (by have := MapAt.ne HD3.out HM3.out; simpa using this)); have HW4 : Kept (NC w w.heap.size (w.heap.size + 1) a0_0 a0_1 a0_2 a1_0 a1_1 a1_2 w4) := ⟨⟨HW3.out.ca.grown hg4 (by have := MapAt.ne HD3.out HW3.out.ca; simpa using this), HW3.out.cb.grown hg4 (by have := MapAt.ne HD3.out HW3.out.cb; simpa using this), HW3.out.below.grown hg4 HW3.out.below.size (by intro k hk; injection hk with hk; omega)⟩⟩; clear hm4 hg4)  | (at_lookup; refine wpList_lookI rfl _ _ 54 rfl 3 4 Try.underlying3 Try.underlying54 (zeroB _) M _ (mapF A2) rfl HD4.out t rfl (WalkArith.wf_i64 (by omega)) ?_; rw [mapF_get, HAT.out]))
                      refine (heard_c mi z _ B2 HM4.out).mono ?_
                      rintro e w6 ⟨rfl, h6, o6⟩
                      have HM6 := Kept.mk h6
                      have HP6 := Kept.mk (HP4.out.only o6 (by omega))
                      have HD6 := Kept.mk (MapAt.only HD4.out o6 (MapAt.ne HD4.out HM4.out).symm)
                      have HW6 : Kept (NC w w.heap.size (w.heap.size + 1) a0_0 a0_1 a0_2 a1_0 a1_1 a1_2 w6) := ⟨⟨HW4.out.ca.only o6 (Blk.ne_ HW4.out.ca HM4.out (by decide)), HW4.out.cb.only o6 (Blk.ne_ HW4.out.cb HM4.out (by decide)), HW4.out.below.trans (o6.below (B := w.heap.size) (by rintro j rfl; omega) HW4.out.below.size)⟩⟩
                      clear h6 o6
                      have HS6 : Kept (heardS true mi z = heard mi z) := ⟨rfl⟩
                      rw [HS6.out] at HQ HF HNN
                      go_wp2_with fail
                      refine (tick_c (heard mi z) z _ B2 HM6.out HF.out z0 z1).mono ?_
                      rintro e w7 ⟨rfl, h7, o7⟩
                      rw [HQ.out]
                      have HM7 := Kept.mk h7
                      have HP7 := Kept.mk (HP6.out.only o7 (by omega))
                      have HD7 := Kept.mk (MapAt.only HD6.out o7 (MapAt.ne HD6.out HM6.out).symm)
                      have HW7 : Kept (NC w w.heap.size (w.heap.size + 1) a0_0 a0_1 a0_2 a1_0 a1_1 a1_2 w7) := ⟨⟨HW6.out.ca.only o7 (Blk.ne_ HW6.out.ca HM6.out (by decide)), HW6.out.cb.only o7 (Blk.ne_ HW6.out.cb HM6.out (by decide)), HW6.out.below.trans (o7.below (B := w.heap.size) (by rintro j rfl; omega) HW6.out.below.size)⟩⟩
                      generalize sendT (heard mi z) z = sx
                      generalize tick (heard mi z) z = mi2 at *
                      generalize tick pr x = pr2 at *
                      clear h7 o7
                      go_wp2_with fail
                      go_roundw
                      case rel => exact ⟨t + 1, n + 1, _, _, pr2, mi2, A2, by omega, by omega, by go_num, by go_num, ⟨⟨HNN.out, HP7.out, HM7.out, HD7.out, by omega, HW7.out.ca, HW7.out.cb, HW7.out.below⟩⟩⟩
                      case measure => simp [intOf]; omega
                    | false =>
                      rw [hat] at HQ HF HNN
                      have HAT := Kept.mk hat
                      clear hat
                      go_wp2_with (first | (at_mapUpdate; refine wpList_setI rfl _ _ _ 54 rfl 3 4 Try.underlying3 Try.underlying54 M s (mapF A) rfl HD3.out (by unfold maxLen; omega) ((t : Int) + 0) (.bool true) (by first | rfl | go_num) rfl (WalkArith.wf_i64 (by omega)) ?_; intro w4 hm4 hg4; obtain ⟨s4, hs4, HD4⟩ : ∃ s4, s4 ≤ s + 1 ∧ Kept (MapI Try.prog 3 w4 M s4 (mapF A2)) := ⟨_, (by split <;> omega), ⟨hm4.cast rfl (fun x => by rw [mapF_sent, HAE.out])⟩⟩; have HP4 := Kept.mk (HP3.out.grown hg4 (by have := MapAt.ne HD3.out HP3.out; simpa using this)); have HM4 := Kept.mk (HM3.out.grown hg4 (by have := MapAt.ne HD3.out HM3.out; simpa using this)); have HW4 : Kept (NC w w.heap.size (w.heap.size + 1) a0_0 a0_1 a0_2 a1_0 a1_1 a1_2 w4) := ⟨⟨HW3.out.ca.grown hg4 (by have := MapAt.ne HD3.out HW3.out.ca; simpa using this), HW3.out.cb.grown hg4 (by have := MapAt.ne HD3.out HW3.out.cb; simpa using this), HW3.out.below.grown hg4 HW3.out.below.size (by intro k hk; injection hk with hk; omega)⟩⟩; clear hm4 hg4)  | (at_lookup; refine wpList_lookI rfl _ _ 54 rfl 3 4 Try.underlying3 Try.underlying54 (zeroB _) M _ (mapF A2) rfl HD4.out t rfl (WalkArith.wf_i64 (by omega)) ?_; rw [mapF_get, HAT.out]))
                      have HS6 : Kept (heardS false mi z = mi) := ⟨rfl⟩
                      rw [HS6.out] at HQ HF HNN
                      refine (tick_c mi z _ B2 HM4.out HF.out z0 z1).mono ?_
                      rintro e w7 ⟨rfl, h7, o7⟩
                      rw [HQ.out]
                      have HM7 := Kept.mk h7
                      have HP7 := Kept.mk (HP4.out.only o7 (by omega))
                      have HD7 := Kept.mk (MapAt.only HD4.out o7 (MapAt.ne HD4.out HM4.out).symm)
                      have HW7 : Kept (NC w w.heap.size (w.heap.size + 1) a0_0 a0_1 a0_2 a1_0 a1_1 a1_2 w7) := ⟨⟨HW4.out.ca.only o7 (Blk.ne_ HW4.out.ca HM4.out (by decide)), HW4.out.cb.only o7 (Blk.ne_ HW4.out.cb HM4.out (by decide)), HW4.out.below.trans (o7.below (B := w.heap.size) (by rintro j rfl; omega) HW4.out.below.size)⟩⟩
                      generalize sendT mi z = sx
                      generalize tick mi z = mi2 at *
                      generalize tick pr x = pr2 at *
                      clear h7 o7
                      go_wp2_with fail
                      go_roundw
                      case rel => exact ⟨t + 1, n + 1, _, _, pr2, mi2, A2, by omega, by omega, by go_num, by go_num, ⟨⟨HNN.out, HP7.out, HM7.out, HD7.out, by omega, HW7.out.ca, HW7.out.cb, HW7.out.below⟩⟩⟩
                      case measure => simp [intOf]; omega
              · obtain rfl : t = 400 := by omega
                have hal := HT.out.inv.mal
                have HAL := Kept.mk hal
                clear hal
                go_wp2_with fail
                refine (alarms_c mi _ B2 HT.out.mb).mono ?_
                rintro e w' ⟨rfl, rfl⟩
                rw [HAL.out]
                go_wp2_with fail
                go_ret
                exact ⟨rfl, HT.out.below⟩

set_option maxRecDepth 100000 in
theorem liftedKeepaliveNever (os : Os) (started : os.Started) (H : Type) (enc : TypeId × Value → H) :
    ReturnsInHanded {} Try.checked os 8 .any (Rows.keepaliveNeverSpec.pre6 enc Try.prog Try.f8 Rows.keepaliveNeverRow.domain false) (Rows.keepaliveNeverSpec.post enc Try.prog Try.f8 false true false false) := by
  refine returnsInHanded_of_change (C := Try.checked) own started (by kernel_rfl) Try.func8
    (ChangeSpec.witness6 (enc := enc) (C := Try.checked) false ⟨#[], #[.agg #[.int .i64 0, .int .i64 0, .int .i64 0], .agg #[.int .i64 0, .int .i64 0, .int .i64 0], .int .u8 0, .int .u8 0, .int .u8 0, .int .i64 0, .slice none 0 0], []⟩ 8 (by kernel_rfl) (by kernel_rfl) (by kernel_rfl) (by kernel_rfl)) ?_
  intro W base args ds gs before hval0 hW hcnd _
  have hval : ∀ (j : Nat) t v, Try.f8.params[j]? = some t → args[j]? = some v → Value.okWide Try.prog W .any base t v := hval0
  have hW' := hW
  obtain ⟨p, q, hA0, hV, rfl, hfz, hnd⟩ := hW
  have hA : DataW.TrodAll enc Try.prog W 0 (fun _ => true) true Try.f8.params.toList args.toList ds p := hA0
  rw [Try.params8] at hA hval
  obtain ⟨v0, vs0, d0, ds0, p0, q0, hargs, rfl, rfl, h0, r0⟩ := trodAll_cons hA
  obtain ⟨v1, vs1, d1, ds1, p1, q1, rfl, rfl, rfl, h1, r1⟩ := trodAll_cons r0
  obtain ⟨v2, vs2, d2, ds2, p2, q2, rfl, rfl, rfl, h2, r2⟩ := trodAll_cons r1
  obtain ⟨v3, vs3, d3, ds3, p3, q3, rfl, rfl, rfl, h3, r3⟩ := trodAll_cons r2
  obtain ⟨v4, vs4, d4, ds4, p4, q4, rfl, rfl, rfl, h4, r4⟩ := trodAll_cons r3
  obtain ⟨v5, vs5, d5, ds5, p5, q5, rfl, rfl, rfl, h5, r5⟩ := trodAll_cons r4
  obtain ⟨v6, vs6, d6, ds6, p6, q6, rfl, rfl, rfl, h6, r6⟩ := trodAll_cons r5
  obtain ⟨rfl, rfl, rfl⟩ := trodAll_nil r6
  obtain rfl : args = #[v0, v1, v2, v3, v4, v5, v6] := by cases args; simp_all
  obtain ⟨rfl, rfl⟩ := trodVars_none hV
  have k0 := h0
  have lt0 : ∀ x ∈ p0, x.block < W.heap.size := by obtain ⟨m, hm⟩ := k0; exact DataW.trod_lt m _ _ _ hm
  have k1 := h1
  have lt1 : ∀ x ∈ p1, x.block < W.heap.size := by obtain ⟨m, hm⟩ := k1; exact DataW.trod_lt m _ _ _ hm
  have k2 := h2
  have lt2 : ∀ x ∈ p2, x.block < W.heap.size := by obtain ⟨m, hm⟩ := k2; exact DataW.trod_lt m _ _ _ hm
  have k3 := h3
  have lt3 : ∀ x ∈ p3, x.block < W.heap.size := by obtain ⟨m, hm⟩ := k3; exact DataW.trod_lt m _ _ _ hm
  have k4 := h4
  have lt4 : ∀ x ∈ p4, x.block < W.heap.size := by obtain ⟨m, hm⟩ := k4; exact DataW.trod_lt m _ _ _ hm
  have k5 := h5
  have lt5 : ∀ x ∈ p5, x.block < W.heap.size := by obtain ⟨m, hm⟩ := k5; exact DataW.trod_lt m _ _ _ hm
  have k6 := h6
  have lt6 : ∀ x ∈ p6, x.block < W.heap.size := by obtain ⟨m, hm⟩ := k6; exact DataW.trod_lt m _ _ _ hm
  obtain ⟨c0_0, c0_1, c0_2, y0_0, y0_1, y0_2, m0, rfl, -, -, hy0_0, hy0_1, hy0_2⟩ := Joins.open_agg3 Try.underlying52 (by kernel_rfl) (show Try.prog.cellsOf 52 = 3 by kernel_rfl) (hval 0 52 v0 rfl rfl) h0
  obtain ⟨a0_0, e0_0, -, w0_0⟩ := DataW.trod_int Try.underlying3 hy0_0
  simp only [List.cons.injEq, and_true] at e0_0; subst e0_0
  obtain ⟨a0_1, e0_1, -, w0_1⟩ := DataW.trod_int Try.underlying3 hy0_1
  simp only [List.cons.injEq, and_true] at e0_1; subst e0_1
  obtain ⟨a0_2, e0_2, -, w0_2⟩ := DataW.trod_int Try.underlying3 hy0_2
  simp only [List.cons.injEq, and_true] at e0_2; subst e0_2
  obtain ⟨c1_0, c1_1, c1_2, y1_0, y1_1, y1_2, m1, rfl, -, -, hy1_0, hy1_1, hy1_2⟩ := Joins.open_agg3 Try.underlying52 (by kernel_rfl) (show Try.prog.cellsOf 52 = 3 by kernel_rfl) (hval 1 52 v1 rfl rfl) h1
  obtain ⟨a1_0, e1_0, -, w1_0⟩ := DataW.trod_int Try.underlying3 hy1_0
  simp only [List.cons.injEq, and_true] at e1_0; subst e1_0
  obtain ⟨a1_1, e1_1, -, w1_1⟩ := DataW.trod_int Try.underlying3 hy1_1
  simp only [List.cons.injEq, and_true] at e1_1; subst e1_1
  obtain ⟨a1_2, e1_2, -, w1_2⟩ := DataW.trod_int Try.underlying3 hy1_2
  simp only [List.cons.injEq, and_true] at e1_2; subst e1_2
  obtain ⟨a2, rfl, -, -, w2⟩ := open_int Try.underlying5 (hval 2 5 v2 rfl rfl) h2
  obtain ⟨a3, rfl, -, -, w3⟩ := open_int Try.underlying5 (hval 3 5 v3 rfl rfl) h3
  obtain ⟨a4, rfl, -, -, w4⟩ := open_int Try.underlying5 (hval 4 5 v4 rfl rfl) h4
  obtain ⟨a5, rfl, -, -, w5⟩ := open_int Try.underlying3 (hval 5 3 v5 rfl rfl) h5
  obtain ⟨a6, len6, cap6, rfl⟩ := okWide_slice Try.underlying42 (hval 6 42 v6 rfl rfl)
  have w6 : IsRows W 1 IsByte a6 len6 cap6 := open_rows Try.underlying42 (show Try.prog.cellsOf 5 = 1 by kernel_rfl) (by decide) isByte h6
  clear hA0 hval0
  refine (walkKeepaliveNever a0_0 a0_1 a0_2 a1_0 a1_1 a1_2 a2 a3 a4 a5 a6 len6 cap6 W w0_0 w0_1 w0_2 w1_0 w1_1 w1_2 w2 w3 w4 w5 w6).mono fun e W' ⟨he, bel⟩ => ?_
  subst he
  exact ⟨_, rfl, _, _, _, [], _, [], hW', trodAll_mk1 (shut_bool Try.underlying4 _), (trodAll_cons_mk (Below.trod laidOut (by kernel_rfl) (of_decide_eq_true (by kernel_rfl)) k0 bel lt0) (trodAll_cons_mk (Below.trod laidOut (by kernel_rfl) (of_decide_eq_true (by kernel_rfl)) k1 bel lt1) (trodAll_cons_mk (Below.trod laidOut (by kernel_rfl) (of_decide_eq_true (by kernel_rfl)) k2 bel lt2) (trodAll_cons_mk (Below.trod laidOut (by kernel_rfl) (of_decide_eq_true (by kernel_rfl)) k3 bel lt3) (trodAll_cons_mk (Below.trod laidOut (by kernel_rfl) (of_decide_eq_true (by kernel_rfl)) k4 bel lt4) (trodAll_cons_mk (Below.trod laidOut (by kernel_rfl) (of_decide_eq_true (by kernel_rfl)) k5 bel lt5) (trodAll_cons_mk (Below.trod laidOut (by kernel_rfl) (of_decide_eq_true (by kernel_rfl)) k6 bel lt6) trodAll_mk0))))))), rfl, bel.frame _, fun h => by cases h⟩
/-- The given statement. -/
theorem keepaliveNever_holds : Rows.KeepaliveNeverSaid :=
  OpenClaim.holds_of_wide 8 Try.f8 rfl rfl rfl rfl rfl rfl rfl ⟨rfl, rfl, rfl, rfl, rfl⟩ rfl rfl rfl rfl rfl (by kernel_rfl) Try.func8 (by kernel_rfl)
    (of_decide_eq_true (by kernel_rfl)) (by unfold Func.isWrapper; first | (rw [if_pos (by decide +kernel)]; kernel_rfl) | (rw [if_neg (by decide +kernel)]; exact ⟨rfl, rfl⟩))
    (fun os started H enc _ => liftedKeepaliveNever os started H enc)
#print axioms keepaliveNever_holds
end Go.Proofs.Ythkilfainkcmgaa
