/- The statement's modest. -/
import Derived.Test.YtjalegdfofogcaaNetB
import Derived.Laws.EntriesVeiled
namespace Go.Proofs.Ytjalegdfofogcaa
set_option linter.unusedVariables false
set_option linter.unusedSimpArgs false
open Go.RowKit
def fitB (r : Rq) : Bool := decide (r.n ≤ 12) && decide (r.d ≤ 4)
def modB (n : PNet) : Bool := decide (n.caps.length ≤ 4) && (decide (n.flows.length ≤ 5) && (netOk n && (n.caps.all fitB && n.flows.all fun f => fitB f.d)))
theorem fit_c (r : Rq) (w : World) : Calls Try.prog 28 #[rqv r] w fun e w' => e = .returned (.bool (fitB r)) ∧ Below w.heap.size w w' := by
  unfold rqv
  by_cases h1 : r.n ≤ 12
  · by_cases h2 : r.d ≤ 4
    · have HR : Kept (fitB r = true) := ⟨by unfold fitB; rw [decide_eq_true h1, decide_eq_true h2]; rfl⟩
      go_enter Try.func28, Try.ntmps28
      go_wp2_with fail
      go_ret
      exact ⟨ret_bool HR.out.symm, by go_grown⟩
    · have HR : Kept (fitB r = false) := ⟨by unfold fitB; rw [decide_eq_true h1, decide_eq_false h2]; rfl⟩
      go_enter Try.func28, Try.ntmps28
      go_wp2_with fail
      go_ret
      exact ⟨ret_bool HR.out.symm, by go_grown⟩
  · have HR : Kept (fitB r = false) := ⟨by unfold fitB; rw [decide_eq_false h1]; rfl⟩
    have h3 : decide (r.n ≤ 12) = false := decide_eq_false h1
    go_enter Try.func28, Try.ntmps28
    go_wp2_with fail
    go_ret
    exact ⟨ret_bool HR.out.symm, by go_grown⟩
theorem unfit_c (ls : List Int) (A : Option Addr) (kap : Nat) (b : Bool) (d : Rq) (g : Nat) (w : World) (hg : Blk w g 56 #[.func (.func 28) #[] #[]]) :
    Calls Try.prog 30 #[.agg #[.slice A ls.length kap, .bool b, .int .i64 d.n, .int .i64 d.d], .pointer (some ⟨g, 0, none⟩)] w fun e w' => e = .returned (.bool (!fitB d)) ∧ Below w.heap.size w w' := by
  have HG := Kept.mk (hg.alloc (.cells #[.slice A ls.length kap, .bool b, .int .i64 d.n, .int .i64 d.d] 37))
  have g0 := hg.cell 0 (v := .func (.func 28) #[] #[]) rfl
  have g1 := hg.lt
  have HF := fun w => fit_c d w
  unfold rqv at HF
  obtain ⟨z, hz⟩ : ∃ z, fitB d = z := ⟨_, rfl⟩
  rw [hz] at HF ⊢
  have HZ := Kept.mk hz
  clear hg hz
  go_enter Try.func30, Try.ntmps30
  go_wp2_with fail
  refine (HF _).mono ?_
  rintro e w1 ⟨rfl, hb1⟩
  have HJ := Kept.mk (join (w := w) (by go_grown) hb1)
  clear hb1
  go_wp2_with fail
  go_ret
  exact ⟨rfl, HJ.out⟩
set_option maxHeartbeats 1000000 in
theorem indexF_c (l : List PFlow) (A : Option Addr) (kap g : Nat) (w : World) (h : RowsAt w w.heap.size 4 fcell A l) (hm : l.length ≤ 9223372036854775807) (hg : Blk w g 56 #[.func (.func 28) #[] #[]]) :
    Calls Try.prog 53 #[.slice A l.length kap, .func (.func 30) #[] #[.pointer (some ⟨g, 0, none⟩)]] w fun e w' => ∃ r : Int, e = .returned (.int .i64 r) ∧ decide (0 ≤ r) = (!l.all fun f => fitB f.d) ∧ Below w.heap.size w w' := by
  have HR := Kept.mk h
  have HG := Kept.mk hg
  clear h hg
  go_enter Try.func53, Try.ntmps53
  go_wp2_with fail
  go_loopw [8] (fun v wr => ∃ k : Nat, k ≤ l.length ∧ v = .int .i64 k ∧ Kept ((l.take k).all (fun f => fitB f.d) = true) ∧ Kept (Below w.heap.size w wr)) (fun v _ => l.length - (intOf v).toNat)
  case atStart => exact ⟨0, Nat.zero_le _, rfl, ⟨by simp⟩, ⟨Below.refl _ _⟩⟩
  case round =>
    obtain ⟨k, hk, rfl, HC, HD⟩ := hrel
    by_cases hlt : k < l.length
    · obtain ⟨y, b, off, hy, rfl, -, hb, hc⟩ := (HR.out.new_ HD.out).at_ hlt
      obtain ⟨ls, pA, pk, pb, pd⟩ := y
      have c0 := hc 0 _ rfl
      have c1 := hc 1 _ rfl
      have c2 := hc 2 _ rfl
      have c3 := hc 3 _ rfl
      simp only [Nat.add_zero] at c0
      dsimp only at c0 c1 c2 c3
      have HY := Kept.mk hy
      clear hc hy
      cases hf : fitB pd with
      | false =>
        have HB := Kept.mk hf
        have HF : Kept ((l.all fun f => fitB f.d) = false) := ⟨all_bad HY.out hf⟩
        clear hf
        go_wp2_with fail
        refine (unfit_c ls pA pk pb pd g _ (HG.out.new_ HD.out)).mono ?_
        rintro e w1 ⟨rfl, hb1⟩
        rw [HB.out]
        have HD1 := Kept.mk (join HD.out hb1)
        clear hb1
        go_wp2_with fail
        go_ret
        exact ⟨_, rfl, by rw [HF.out]; exact decide_eq_true (by omega), HD1.out⟩
      | true =>
        have HB := Kept.mk hf
        have HF := Kept.mk (all_next (p := fun f : PFlow => fitB f.d) HC.out HY.out hf)
        clear hf
        go_wp2_with fail
        refine (unfit_c ls pA pk pb pd g _ (HG.out.new_ HD.out)).mono ?_
        rintro e w1 ⟨rfl, hb1⟩
        rw [HB.out]
        have HD1 := Kept.mk (join HD.out hb1)
        clear hb1
        go_wp2_with fail
        go_roundw
        case rel => exact ⟨k + 1, by omega, by go_num, HF, HD1⟩
        case measure => simp [intOf]; omega
    · obtain rfl : k = l.length := by omega
      have HF : Kept ((l.all fun f => fitB f.d) = true) := ⟨by have := HC.out; rwa [List.take_length] at this⟩
      clear hlt HC
      go_wp2_with fail
      go_ret
      exact ⟨_, rfl, by rw [HF.out]; rfl, HD.out⟩
theorem containsF_c (l : List PFlow) (A : Option Addr) (kap g : Nat) (w : World) (h : RowsAt w w.heap.size 4 fcell A l) (hm : l.length ≤ 9223372036854775807) (hg : Blk w g 56 #[.func (.func 28) #[] #[]]) :
    Calls Try.prog 29 #[.slice A l.length kap, .func (.func 30) #[] #[.pointer (some ⟨g, 0, none⟩)]] w fun e w' => e = .returned (.bool (!l.all fun f => fitB f.d)) ∧ Below w.heap.size w w' := by
  have HR := Kept.mk h
  have HG := Kept.mk hg
  clear h hg
  have HI := fun w h hg => indexF_c l A kap g w h hm hg
  go_enter Try.func29, Try.ntmps29
  go_wp2_with (go_at_call 53; refine (HI _ HR.out HG.out).mono ?_; rintro e w1 ⟨r, rfl, hr, hb1⟩; have HC := Kept.mk hr; have HJ := Kept.mk hb1; clear hr hb1)
  go_ret
  exact ⟨ret_bool HC.out, HJ.out⟩
theorem mod_no {n : PNet} (h : ¬ (n.caps.length ≤ 4 ∧ n.flows.length ≤ 5)) : modB n = false := by
  unfold modB
  by_cases h1 : n.caps.length ≤ 4
  · rw [decide_eq_true h1, decide_eq_false (fun h2 => h ⟨h1, h2⟩)]; rfl
  · rw [decide_eq_false h1]; rfl
set_option maxRecDepth 100000 in
set_option maxHeartbeats 8000000 in
theorem modest_c (n : PNet) (w : World) (hn : NetAt w w.heap.size n) : Calls Try.prog 6 #[nval n] w fun e w' => e = .returned (.bool (modB n)) ∧ Below w.heap.size w w' := by
  have HN := Kept.mk hn
  have hcm : n.caps.length ≤ 9223372036854775807 := by have := hn.cle; unfold maxLen at this; omega
  have hfm : n.flows.length ≤ 9223372036854775807 := by have := hn.fle; unfold maxLen at this; omega
  have VN := fun w h => valid_net_c n w h
  clear hn
  obtain ⟨caps, cA, ck, flows, fA, fk⟩ := n
  unfold nval at VN ⊢
  dsimp only at hcm hfm VN ⊢
  by_cases hbig : ¬ (caps.length ≤ 4 ∧ flows.length ≤ 5)
  · have HR := Kept.mk (mod_no (n := ⟨caps, cA, ck, flows, fA, fk⟩) hbig)
    by_cases h1 : caps.length ≤ 4
    · have h2 : (5 : Int) < flows.length := by omega
      have d1 : decide ((4 : Int) < caps.length) = false := decide_eq_false (by omega)
      clear hbig h1
      go_enter Try.func6, Try.ntmps6
      go_wp2_with fail
      go_ret
      exact ⟨ret_bool HR.out.symm, by go_grown⟩
    · have h2 : (4 : Int) < caps.length := by omega
      clear hbig h1
      go_enter Try.func6, Try.ntmps6
      go_wp2_with fail
      go_ret
      exact ⟨ret_bool HR.out.symm, by go_grown⟩
  have hc4 : caps.length ≤ 4 := by omega
  have hf5 : flows.length ≤ 5 := by omega
  have d1 : decide ((4 : Int) < caps.length) = false := decide_eq_false (by omega)
  have d2 : decide ((5 : Int) < flows.length) = false := decide_eq_false (by omega)
  clear hbig
  have HB0 := Kept.mk (Blk.new w 25 #[.slice cA caps.length ck, .slice fA flows.length fk])
  have HD0 : Kept (Below w.heap.size w (w.alloc (.cells #[.slice cA caps.length ck, .slice fA flows.length fk] 25))) := ⟨by go_grown⟩
  have HN1 := HN.out.new_ HD0.out
  have n0 := HB0.out.cell 0 (v := .slice cA caps.length ck) rfl
  have n1 := HB0.out.cell 1 (v := .slice fA flows.length fk) rfl
  cases ho : netOk ⟨caps, cA, ck, flows, fA, fk⟩ with
  | false =>
    have HO := Kept.mk ho
    have HR : Kept (modB ⟨caps, cA, ck, flows, fA, fk⟩ = false) := ⟨by unfold modB; rw [ho]; simp⟩
    clear ho
    go_enter Try.func6, Try.ntmps6
    go_wp2_with (go_at_call 27; refine (VN _ HN1).mono ?_; rintro e w1 ⟨rfl, hb1⟩; rw [HO.out]; have HB1 := Kept.mk (HB0.out.new_ hb1); have HD1 := Kept.mk (join (w := w) HD0.out hb1); clear hb1 n0 n1; have n0 := HB1.out.cell 0 (v := .slice cA caps.length ck) rfl; have n1 := HB1.out.cell 1 (v := .slice fA flows.length fk) rfl)
    go_ret
    exact ⟨ret_bool HR.out.symm, HD1.out⟩
  | true =>
    have HO := Kept.mk ho
    clear ho
    go_enter Try.func6, Try.ntmps6
    go_upto_region 3 with (go_at_call 27; refine (VN _ HN1).mono ?_; rintro e w1 ⟨rfl, hb1⟩; rw [HO.out]; have HB1 := Kept.mk (HB0.out.new_ hb1); have HD1 := Kept.mk (join (w := w) HD0.out hb1); clear hb1 n0 n1; have n0 := HB1.out.cell 0 (v := .slice cA caps.length ck) rfl; have n1 := HB1.out.cell 1 (v := .slice fA flows.length fk) rfl)
    clear n0 n1
    go_upto_region 4 with fail
    obtain ⟨U, hU, HU⟩ : ∃ U, U = w1.alloc (.cells #[.func (.func 28) #[] #[]] 56) ∧ Kept (Blk U w.heap.size 25 #[.slice cA caps.length ck, .slice fA flows.length fk] ∧ Blk U w1.heap.size 56 #[.func (.func 28) #[] #[]] ∧ Below w.heap.size w U) := ⟨_, rfl, ⟨HB1.out.alloc _, Blk.new _ _ _, HD1.out.alloc HD1.out.size _⟩⟩
    obtain ⟨g, hg⟩ : ∃ g, g = w1.heap.size := ⟨_, rfl⟩
    rw [← hU, ← hg]
    rw [← hg] at HU
    clear hU hg HB1 HD1
    have n0 := HU.out.1.cell 0 (v := .slice cA caps.length ck) rfl
    have n1 := HU.out.1.cell 1 (v := .slice fA flows.length fk) rfl
    have lz := HU.out.1.lt
    go_wp2_with fail
    go_loopw [24] (fun v wr => ∃ k : Nat, k ≤ caps.length ∧ v = .int .i64 k ∧ Kept ((caps.take k).all fitB = true) ∧ Kept (Blk wr w.heap.size 25 #[.slice cA caps.length ck, .slice fA flows.length fk] ∧ Blk wr g 56 #[.func (.func 28) #[] #[]] ∧ Below w.heap.size w wr)) (fun v _ => caps.length - (intOf v).toNat)
    case atStart => exact ⟨0, Nat.zero_le _, rfl, ⟨rfl⟩, HU⟩
    case round =>
      clear HU n0 n1 lz HN1
      obtain ⟨k, hk, rfl, HA, HU⟩ := hrel
      have lz := HU.out.1.lt
      have n1 := HU.out.1.cell 1 (v := .slice fA flows.length fk) rfl
      have g0 := HU.out.2.1.cell 0 (v := .func (.func 28) #[] #[]) rfl
      have g1 := HU.out.2.1.lt
      by_cases hlt : k < caps.length
      · obtain ⟨x, b, off, hx, rfl, -, hb, c0, c1, x64⟩ := (HN.out.new_ HU.out.2.2).capAt hlt
        have HX := Kept.mk hx
        have FC := fun w => fit_c x w
        unfold rqv at FC
        have HU0 : Kept (Blk (wr.alloc (.cells #[.int .i64 x.n, .int .i64 x.d] 32)) w.heap.size 25 #[.slice (some ⟨b, off, none⟩) caps.length ck, .slice fA flows.length fk] ∧ Blk (wr.alloc (.cells #[.int .i64 x.n, .int .i64 x.d] 32)) g 56 #[.func (.func 28) #[] #[]] ∧ Below w.heap.size w (wr.alloc (.cells #[.int .i64 x.n, .int .i64 x.d] 32))) := ⟨HU.out.1.alloc _, HU.out.2.1.alloc _, HU.out.2.2.alloc HU.out.2.2.size _⟩
        clear hx
        cases hf : fitB x with
        | false =>
          have HF := Kept.mk hf
          have HR : Kept (modB ⟨caps, some ⟨b, off, none⟩, ck, flows, fA, fk⟩ = false) := ⟨by unfold modB; rw [all_bad HX.out hf]; simp⟩
          clear hf
          go_wp2_with fail
          refine (FC _).mono ?_
          rintro e w1 ⟨rfl, hb1⟩
          rw [HF.out]
          have HJ := Kept.mk (join HU0.out.2.2 hb1)
          clear hb1
          go_wp2_with fail
          go_ret
          exact ⟨ret_bool HR.out.symm, HJ.out⟩
        | true =>
          have HF := Kept.mk hf
          have HR := Kept.mk (all_next HA.out HX.out hf)
          clear hf
          go_wp2_with fail
          refine (FC _).mono ?_
          rintro e w1 ⟨rfl, hb1⟩
          rw [HF.out]
          have HJ : Kept (Blk w1 w.heap.size 25 #[.slice (some ⟨b, off, none⟩) caps.length ck, .slice fA flows.length fk] ∧ Blk w1 g 56 #[.func (.func 28) #[] #[]] ∧ Below w.heap.size w w1) := ⟨HU0.out.1.new_ hb1, HU0.out.2.1.new_ hb1, join HU0.out.2.2 hb1⟩
          clear hb1
          go_wp2_with fail
          go_roundw
          case rel => exact ⟨k + 1, by omega, by go_num, HR, HJ⟩
          case measure => simp [intOf]; omega
      · obtain rfl : k = caps.length := by omega
        have HR : Kept (modB ⟨caps, cA, ck, flows, fA, fk⟩ = flows.all fun f => fitB f.d) := ⟨by
          have h := HA.out
          rw [List.take_length] at h
          unfold modB
          rw [HO.out, h, decide_eq_true hc4, decide_eq_true hf5]
          rfl⟩
        have CF := fun w h hg => containsF_c flows fA fk g w h hfm hg
        obtain ⟨z, hz⟩ : ∃ z, (flows.all fun f => fitB f.d) = z := ⟨_, rfl⟩
        rw [hz] at HR CF
        have HZ := Kept.mk hz
        clear hlt HA hz
        go_wp2_with (go_at_call 29; refine (CF _ (HN.out.new_ HU.out.2.2).flo HU.out.2.1).mono ?_; rintro e w2 ⟨rfl, hb2⟩; have HJ := Kept.mk (join HU.out.2.2 hb2); clear hb2)
        go_ret
        exact ⟨ret_bool HR.out.symm, HJ.out⟩
set_option maxHeartbeats 2000000 in
theorem awake_c (w : World) : Calls Try.prog 5 #[] w fun e w' => e = .returned (.bool true) ∧ Below w.heap.size w w' := by
  have A1 := fun w => add_q ⟨1, 2⟩ ⟨1, 3⟩ w (by decide +kernel) (by decide +kernel) (by unfold Sm; decide +kernel) (by unfold Sm; decide +kernel)
  have e : cq (val ⟨1, 2⟩ + val ⟨1, 3⟩) = ⟨5, 6⟩ := by
    have h1 : (cq (val ⟨1, 2⟩ + val ⟨1, 3⟩)).n = 5 := by decide +kernel
    have h2 : (cq (val ⟨1, 2⟩ + val ⟨1, 3⟩)).d = 6 := by decide +kernel
    cases h : cq (val ⟨1, 2⟩ + val ⟨1, 3⟩)
    rw [h] at h1 h2
    dsimp only at h1 h2
    rw [h1, h2]
  rw [e] at A1
  unfold rqv at A1
  dsimp only at A1
  go_enter Try.func5, Try.ntmps5
  go_wp2_with (go_at_call 26; refine (A1 _).mono ?_; rintro e w1 ⟨rfl, hb1⟩; have HJ := Kept.mk hb1; clear hb1)
  go_ret
  exact ⟨rfl, by have := HJ.out; exact this.alloc this.size _⟩
end Go.Proofs.Ytjalegdfofogcaa
