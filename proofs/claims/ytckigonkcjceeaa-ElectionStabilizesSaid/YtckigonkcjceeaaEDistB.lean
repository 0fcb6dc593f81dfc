/- graph.distances, usable, Distances. -/
import Derived.Test.YtckigonkcjceeaaEDist
namespace Go.Proofs.Ytckigonkcjceeaa
set_option linter.unusedVariables false
set_option linter.unusedSimpArgs false
open Go.RowKit
theorem rep_set (n k : Nat) (h : k < n) : ((List.replicate k (-1 : Int)) ++ List.replicate (n - k) 0).set k (-1) = (List.replicate (k + 1) (-1 : Int)) ++ List.replicate (n - (k + 1)) 0 := by
  rw [List.set_append_right _ _ (by simp)]
  obtain ⟨m, hm⟩ : ∃ m, n - k = m + 1 := ⟨n - k - 1, by omega⟩
  rw [hm, List.length_replicate, Nat.sub_self, List.replicate_succ, List.set_cons_zero, show n - (k + 1) = m by omega, List.replicate_succ', List.append_assoc]
  rfl
theorem rep_get (n k : Nat) (h : k < n) : ((List.replicate k (-1 : Int)) ++ List.replicate (n - k) 0)[k]? = some 0 := by
  rw [List.getElem?_append_right (by simp), List.length_replicate, Nat.sub_self, List.getElem?_replicate, if_pos (by omega)]
theorem mid_next_off {l : List (Cb × Bool)} {n : Nat} {s : Int} {seen : List (Cb × Bool)} {L Q : List Int} {x : Int} (h : Mid l n s seen x L Q) {c : Cb} : Mid l n s (seen ++ [(c, false)]) x L Q := h.next (fun e => by cases e) (fun e => by cases e)
/-- What distances returns. -/
def DistR (w : World) (l : List (Cb × Bool)) (n : Nat) (s : Int) (e : Ending) (w' : World) : Prop := ∃ (A : Option Addr) (kap : Nat) (L : List Int), e = .returned (.slice A n kap) ∧ Far l n s L ∧ RowsAt w' w'.heap.size 1 icell A L ∧ Below w.heap.size w w'
/-- .. with the block that holds them. -/
def DistB (w : World) (l : List (Cb × Bool)) (n : Nat) (s : Int) (e : Ending) (w' : World) : Prop := ∃ (g kap : Nat) (L : List Int), e = .returned (.slice (some ⟨g, 0, none⟩) n kap) ∧ Far l n s L ∧ RowBlk w' g 3 icell L ∧ w.heap.size ≤ g ∧ Below w.heap.size w w'
set_option maxRecDepth 100000 in
set_option maxHeartbeats 16000000 in
theorem distances_b (N : List Nd) (C : List Cb) (An Ac Au : Option Addr) (kn kc ku s : Nat) (up : List Bool) (w : World) (hp : PlanAt w w.heap.size ⟨N, C, An, kn, Ac, kc⟩) (hu : RowsAt w w.heap.size 1 bcell1 Au up) (hv : validE N C = 0) (hlu : up.length = C.length) (hs : s < N.length) :
    Calls Try.prog 48 #[.agg #[.slice An N.length kn, .slice Ac C.length kc], .int .i64 (s : Int), .slice Au up.length ku] w (DistB w (C.zip up) N.length s) := by
  have HP := Kept.mk hp
  have HU := Kept.mk hu
  have HN := Kept.mk (net_of (up := up) hv)
  have HC := Kept.mk (valid_cab hv)
  have hn16 := (valid_spec hv).1
  have hc32 := (valid_spec hv).2.1
  have u1 : C.length ≤ up.length := by omega
  have u2 : up.length ≤ C.length := by omega
  have HLU := Kept.mk hlu
  clear hp hu hv hlu
  have hmk := fun w => run_make_flat (P := Try.prog) icell_len (by omega) (0 : Int) 61 3 _ 8 Try.underlying61 infoI rfl N.length (by omega) (by omega) w
  have hcut := fun (A : Option Addr) (n kap : Nat) (w : World) (hi : 1 ≤ n) => run_cut1 (A := A) w (kap := kap) hi rfl
  go_enter Try.func48, Try.ntmps48
  go_wp2_with fail
  have HW0 := Kept.mk (Blk.new w 32 #[.slice An N.length kn, .slice Ac C.length kc])
  have HB0 := Kept.mk ((HW0.out.alloc (.cells ((List.replicate N.length (0 : Int)).flatMap icell).toArray 3)).alloc (.cells #[.slice (some ⟨w.heap.size + 1, 0, none⟩) N.length N.length] 61))
  have HR0 := Kept.mk ((Blk.new (w.alloc (.cells #[.slice An N.length kn, .slice Ac C.length kc] 32)) 3 ((List.replicate N.length (0 : Int)).flatMap icell).toArray).alloc (.cells #[.slice (some ⟨w.heap.size + 1, 0, none⟩) N.length N.length] 61))
  have H70 := Kept.mk (Blk.new ((w.alloc (.cells #[.slice An N.length kn, .slice Ac C.length kc] 32)).alloc (.cells ((List.replicate N.length (0 : Int)).flatMap icell).toArray 3)) 61 #[.slice (some ⟨w.heap.size + 1, 0, none⟩) N.length N.length])
  have HD0 : Kept (Below w.heap.size w (((w.alloc (.cells #[.slice An N.length kn, .slice Ac C.length kc] 32)).alloc (.cells ((List.replicate N.length (0 : Int)).flatMap icell).toArray 3)).alloc (.cells #[.slice (some ⟨w.heap.size + 1, 0, none⟩) N.length N.length] 61))) := ⟨by go_grown⟩
  have h70 := H70.out.cell 0 rfl
  simp only [World.size_alloc] at h70 HR0 H70
  go_loopw [20] (fun v wr => ∃ k : Nat, k ≤ N.length ∧ v = .int .i64 k ∧ Kept (RowBlk wr (w.heap.size + 1) 3 icell ((List.replicate k (-1 : Int)) ++ List.replicate (N.length - k) 0)) ∧ Kept (Blk wr (w.heap.size + 2) 61 #[.slice (some ⟨w.heap.size + 1, 0, none⟩) N.length N.length]) ∧ Kept (Blk wr w.heap.size 32 #[.slice An N.length kn, .slice Ac C.length kc]) ∧ Kept (Below w.heap.size w wr) ∧ wr.heap.size = w.heap.size + 3) (fun v _ => N.length - (intOf v).toNat)
  case atStart => exact ⟨0, Nat.zero_le _, rfl, ⟨HR0.out⟩, H70, HB0, HD0, by simp⟩
  case round =>
    clear HW0 HB0 HR0 H70 HD0 h70
    obtain ⟨k, hk, rfl, HR, H7, HB, HD, hsz⟩ := hrel
    have c7 := H7.out.cell 0 (v := .slice (some ⟨w.heap.size + 1, 0, none⟩) N.length N.length) rfl
    by_cases hlt : k < N.length
    · have c0 : wr.cell? ⟨w.heap.size + 1, k, none⟩ = some (.int .i64 0) := by have := HR.out.cell icell_len (rep_get N.length k hlt) (j := 0) rfl; simpa using this
      have f0 := HR.out.free k
      go_wp2_with fail
      go_roundw
      case rel => exact ⟨k + 1, by omega, by go_num, ⟨by rw [← rep_set N.length k hlt]; exact HR.out.set1 icell_len (by simp; omega) rfl⟩, ⟨H7.out.far (by simp) _⟩, ⟨HB.out.far (by simp) _⟩, ⟨HD.out.setCell (by simp) _⟩, by simpa using hsz⟩
      case measure => simp [intOf]; omega
    · obtain rfl : k = N.length := by omega
      have hR1 : RowBlk wr (w.heap.size + 1) 3 icell (List.replicate N.length (-1 : Int)) := by have h := HR.out; rwa [Nat.sub_self, List.replicate_zero, List.append_nil] at h
      have c0 : wr.cell? ⟨w.heap.size + 1, s, none⟩ = some (.int .i64 (-1)) := by have := hR1.cell icell_len (k := s) (x := -1) (by rw [List.getElem?_replicate, if_pos hs]) (j := 0) rfl; simpa using this
      have f0 := hR1.free s
      have HR2 : Kept (RowBlk (wr.setCell ⟨w.heap.size + 1, s, none⟩ (.int .i64 0)) (w.heap.size + 1) 3 icell ((List.replicate N.length (-1 : Int)).set s 0)) := ⟨hR1.set1 icell_len (by simpa using hs) rfl⟩
      have H72 : Kept (Blk (wr.setCell ⟨w.heap.size + 1, s, none⟩ (.int .i64 0)) (w.heap.size + 2) 61 #[.slice (some ⟨w.heap.size + 1, 0, none⟩) N.length N.length]) := ⟨H7.out.far (by simp) _⟩
      have HB2 : Kept (Blk (wr.setCell ⟨w.heap.size + 1, s, none⟩ (.int .i64 0)) w.heap.size 32 #[.slice An N.length kn, .slice Ac C.length kc]) := ⟨HB.out.far (by simp) _⟩
      have HD2 : Kept (Below w.heap.size w (wr.setCell ⟨w.heap.size + 1, s, none⟩ (.int .i64 0))) := ⟨HD.out.setCell (by simp) _⟩
      have hsz2 : (wr.setCell ⟨w.heap.size + 1, s, none⟩ (.int .i64 0)).heap.size = w.heap.size + 3 := by simpa using hsz
      clear hlt hR1 HR H7 HB HD
      go_wp2_with fail
      clear c7 c0 f0 hsz
      generalize wr.setCell ⟨w.heap.size + 1, s, none⟩ (.int .i64 0) = w2 at *
      have HQ3 := Kept.mk ((QAt.one w2 (s : Int)).alloc (.cells #[.slice (some ⟨w2.heap.size, 0, none⟩) 1 1] 61))
      have H93 := Kept.mk (Blk.new (w2.alloc (.cells #[.int .i64 (s : Int)] 3)) 61 #[.slice (some ⟨w2.heap.size, 0, none⟩) 1 1])
      have HG3 : Below w2.heap.size w2 ((w2.alloc (.cells #[.int .i64 (s : Int)] 3)).alloc (.cells #[.slice (some ⟨w2.heap.size, 0, none⟩) 1 1] 61)) := by go_grown
      have HDS : Kept (DS w ((w2.alloc (.cells #[.int .i64 (s : Int)] 3)).alloc (.cells #[.slice (some ⟨w2.heap.size, 0, none⟩) 1 1] 61)) N C An Ac kn kc ((List.replicate N.length (-1 : Int)).set s 0) [(s : Int)] w2.heap.size 0 1) := ⟨⟨HB2.out.new_ HG3, HR2.out.new_ HG3, H72.out.new_ HG3, by have h := H93.out; rw [World.size_alloc, hsz2] at h; rw [hsz2]; exact h, HQ3.out, by omega, join HD2.out HG3⟩⟩
      rw [hsz2] at *
      clear HQ3 H93 HG3 HR2 H72 HB2 HD2
      go_loopg [] (cnt ((List.replicate N.length (-1 : Int)).set s 0) + 1) (fun gk wr => ∃ (L Q : List Int) (g off cap : Nat), gk = cnt L + Q.length ∧ cnt L + Q.length ≤ N.length ∧ Kept (Out (C.zip up) N.length (s : Int) L Q) ∧ Kept (DS w wr N C An Ac kn kc L Q g off cap))
      case atStart => exact ⟨_, _, _, _, _, rfl, by have := start_cnt hs; rw [List.length_singleton]; omega, ⟨out_start HN.out hs⟩, HDS⟩
      case round =>
        clear HDS
        obtain ⟨L, Q, g, off, cap, rfl, hcn, HO, HDS⟩ := hrel
        have c9 := HDS.out.b9.cell 0 (v := .slice (some ⟨g, off, none⟩) Q.length cap) rfl
        have f9 := HDS.out.b9.free 0
        have c7 := HDS.out.b7.cell 0 (v := .slice (some ⟨w.heap.size + 1, 0, none⟩) N.length N.length) rfl
        have k1 := HDS.out.box.cell 1 (v := .slice Ac C.length kc) rfl
        have z9 := HDS.out.b9.lt
        have z1 := HDS.out.box.lt
        cases Q with
        | nil =>
          have HF := Kept.mk (HO.out.far HN.out)
          go_wp2_with fail
          go_ret
          exact ⟨w.heap.size + 1, N.length, L, rfl, HF.out, HDS.out.row, by omega, HDS.out.bel⟩
        | cons x Q =>
          obtain ⟨off', hof, hq1⟩ := HDS.out.q.cut
          have hx := (HO.out.low x (by simp)).1
          obtain ⟨xn, rfl⟩ : ∃ xn : Nat, x = xn := ⟨x.toNat, by omega⟩
          have cx := HDS.out.q.cells 0 (xn : Int) rfl
          rw [Nat.add_zero] at cx
          rw [List.length_cons] at c9
          have hle := HDS.out.q.le
          rw [List.length_cons] at hle
          have hs1 := fun w => run_cut1 (A := some ⟨g, off, none⟩) (A' := some ⟨g, off', none⟩) (n := Q.length + 1) (kap := cap) w (by omega) hof.symm
          have hs2 := fun w => run_cut2 (A := some ⟨g, off, none⟩) (A' := some ⟨g, off', none⟩) (n := Q.length + 1) (kap := cap) w (by omega) hof.symm
          simp only [Nat.add_sub_cancel] at hs1 hs2
          have HMI := Kept.mk HO.out.mid
          have HQ1 := Kept.mk hq1
          have zg := HDS.out.q.lt
          have hgn := HDS.out.gne
          clear hof hq1 hcut
          go_wp2_with fail
          have HDS3 : Kept (DS w ((wr.setCell ⟨w.heap.size + 4, 0, none⟩ (.slice (some ⟨g, off', none⟩) Q.length (cap - 1))).alloc (.cells #[.int .i64 (xn : Int)] 3)) N C An Ac kn kc L Q g off' (cap - 1)) := ⟨⟨(HDS.out.box.far (by simp) _).alloc _, RowBlk.alloc (HDS.out.row.far (by simp) _) _, (HDS.out.b7.far (by simp) _).alloc _, (HDS.out.b9.to 0 _ rfl).alloc _, (HQ1.out.far (by simp; omega) _).alloc _, hgn, (HDS.out.bel.setCell (by simp <;> omega) _).alloc (by simp <;> omega) _⟩⟩
          have HBN : Kept (Blk ((wr.setCell ⟨w.heap.size + 4, 0, none⟩ (.slice (some ⟨g, off', none⟩) Q.length (cap - 1))).alloc (.cells #[.int .i64 (xn : Int)] 3)) wr.heap.size 3 #[.int .i64 (xn : Int)]) := ⟨by have h := Blk.new (wr.setCell ⟨w.heap.size + 4, 0, none⟩ (.slice (some ⟨g, off', none⟩) Q.length (cap - 1))) 3 #[.int .i64 (xn : Int)]; rwa [World.size_setCell] at h⟩
          clear c9 f9 c7 k1 cx hs1 hs2 HQ1 HDS HO
          generalize (wr.setCell ⟨w.heap.size + 4, 0, none⟩ (.slice (some ⟨g, off', none⟩) Q.length (cap - 1))).alloc (.cells #[.int .i64 (xn : Int)] 3) = w3 at *
          generalize wr.heap.size = bN at *
          go_loopw [44] (fun v wr => ∃ i : Nat, i ≤ C.length ∧ v = .int .i64 i ∧ ∃ (L' Q' : List Int) (g off cap : Nat), Kept (cnt L' + Q'.length = cnt L + Q.length) ∧ Kept (Mid (C.zip up) N.length (s : Int) ((C.zip up).take i) (xn : Int) L' Q') ∧ Kept (DS w wr N C An Ac kn kc L' Q' g off cap) ∧ Kept (Blk wr bN 3 #[.int .i64 (xn : Int)]) ∧ Kept (g ≠ bN)) (fun v _ => C.length - (intOf v).toNat)
          case atStart => exact ⟨0, Nat.zero_le _, rfl, L, Q, g, off', cap - 1, ⟨rfl⟩, HMI, HDS3, HBN, ⟨by omega⟩⟩
          case round =>
            clear HDS3 HBN HMI zg hgn hle
            obtain ⟨i, hi, rfl, L', Q', g, off, cap, HSM, HMI, HDS, HBN, HGB⟩ := hrel
            have zN := HBN.out.lt
            have z1' := HDS.out.box.lt
            by_cases hlt : i < C.length
            · obtain ⟨x, b, oc, hxc, rfl, -, hbc, ⟨c0, c1, c2, c3, c4, c5⟩, -⟩ := (HP.out.new_ HDS.out.bel).cab hlt
              obtain ⟨u, bu, ou, hu, rfl, -, hbu, hcu⟩ := (HU.out.new_ HDS.out.bel).at_ (k := i) (by omega)
              have cu := hcu 0 (.bool u) rfl
              simp only [Nat.add_zero, Nat.mul_one] at cu
              have HXC := Kept.mk hxc
              have HUG := Kept.mk hu
              have HX := Kept.mk (HC.out x (List.mem_of_getElem? hxc))
              obtain ⟨xa, hxa⟩ : ∃ xa : Nat, x.a = xa := ⟨x.a.toNat, by have := HX.out.a; omega⟩
              obtain ⟨xb, hxb⟩ : ∃ xb : Nat, x.b = xb := ⟨x.b.toNat, by have := HX.out.b; omega⟩
              have la : xa < N.length := by have := HX.out.a; omega
              have lb : xb < N.length := by have := HX.out.b; omega
              have hne : xa ≠ xb := by have := HX.out.ne; omega
              rw [hxa] at c0
              rw [hxb] at c2
              have HXA := Kept.mk hxa
              have HXB := Kept.mk hxb
              have HTK := Kept.mk (take_next (zip_get hxc hu))
              have HB13 := Kept.mk (Blk.new wr 42 #[.int .i64 xa, .int .i64 x.ap, .int .i64 xb, .int .i64 x.bp, .int .i64 x.delay, .int .i64 x.cap])
              have HDS2 := Kept.mk (HDS.out.new_ ((Below.refl _ _).alloc (Nat.le_refl _) (.cells #[.int .i64 xa, .int .i64 x.ap, .int .i64 xb, .int .i64 x.bp, .int .i64 x.delay, .int .i64 x.cap] 42)))
              have HBN2 := Kept.mk (HBN.out.alloc (.cells #[.int .i64 xa, .int .i64 x.ap, .int .i64 xb, .int .i64 x.bp, .int .i64 x.delay, .int .i64 x.cap] 42))
              have cN := HBN.out.cell 0 (v := .int .i64 (xn : Int)) rfl
              have hQ' : Q'.length ≤ 1000000 := by have := HSM.out; rw [List.length_cons] at hcn; omega
              have hxb1 : dAt L' (xn : Int) ≤ 1000 := by have := HMI.out.bnd (xn : Int) (by omega) (by have := HMI.out.x0; omega) HMI.out.x0.2; omega
              have hx00 := HMI.out.x0.2
              have hxnn : xn < N.length := by have := HMI.out.x0; omega
              have HGN := Kept.mk HDS.out.gne
              clear hcu hxc hu hxa hxb
              cases u with
              | false =>
                go_wp2_with fail
                go_roundw
                case rel => exact ⟨i + 1, by omega, by go_num, L', Q', g, off, cap, ⟨HSM.out⟩, ⟨by rw [HTK.out]; exact mid_next_off HMI.out⟩, HDS2, HBN2, ⟨HGB.out⟩⟩
                case measure => simp [intOf]; omega
              | true =>
                by_cases ea : xa = xn
                · have qa : ((xa : Int) == (xn : Int)) = true := beq_iff_eq.2 (by omega)
                  have qb : ((xb : Int) == (xn : Int)) = false := beq_false_of_ne (by omega)
                  have HE : Kept (x.a = (xn : Int)) := ⟨by rw [HXA.out, ea]⟩
                  clear ea
                  by_cases hd : 0 ≤ dAt L' (xb : Int)
                  · go_wp2_with (go_at_call 54; refine (visit_old _ (w.heap.size + 2) (w.heap.size + 4) bN (w.heap.size + 1) xb N.length L' HDS2.out.b7 HDS2.out.row (by rw [HMI.out.len]) lb hd).mono ?_; rintro e w5 ⟨rfl, rfl⟩)
                    go_roundw
                    case rel => exact ⟨i + 1, by omega, by go_num, L', Q', g, off, cap, ⟨HSM.out⟩, ⟨by rw [HTK.out]; exact mid_old_a HN.out HMI.out (zip_mem_get HXC.out HUG.out) HE.out HXB.out hd⟩, HDS2, HBN2, ⟨HGB.out⟩⟩
                    case measure => simp [intOf]; omega
                  · replace hd : dAt L' (xb : Int) < 0 := by omega
                    have HMN := Kept.mk (mid_new_a HN.out HMI.out (zip_mem_get HXC.out HUG.out) HE.out HXB.out lb hd)
                    have zg2 := HDS.out.q.lt
                    go_wp2_with (go_at_call 54; refine (visit_new _ (w.heap.size + 2) (w.heap.size + 4) bN (w.heap.size + 1) g off cap xb xn N.length L' Q' HDS2.out.b7 HDS2.out.row HBN2.out HDS2.out.b9 HDS2.out.q HMI.out.len lb hxnn hd ⟨hx00, hxb1⟩ hQ' (by have := HGN.out; omega) (by omega) HGN.out.2).mono ?_; rintro e w5 hv5; obtain ⟨rfl, ⟨g', off2, cap2, hds5, hg5⟩, ho5⟩ := HDS2.out.visited hv5; have HDS5 := Kept.mk hds5; have HG5 := Kept.mk hg5; have HBN5 := Kept.mk (HBN2.out.only ho5 (by have := HGN.out; have := HGB.out; omega)); have HX5 := Kept.mk (HB13.out.only ho5 (by have := HGN.out; omega)); clear hv5 hds5 hg5 ho5 c0 c1 c2 c3 c4 c5 cu cN; have y0 := HX5.out.cell 0 (v := .int .i64 xa) rfl; have y2 := HX5.out.cell 2 (v := .int .i64 xb) rfl; have cN := HBN5.out.cell 0 (v := .int .i64 (xn : Int)) rfl; have cu := (HU.out.new_ HDS5.out.bel).cell_ HUG.out (j := 0) (u := .bool true) rfl; simp only [Nat.add_zero, Nat.mul_one] at cu; have zN5 := HBN5.out.lt; have zX5 := HX5.out.lt)
                    go_roundw
                    case rel => exact ⟨i + 1, by omega, by go_num, L'.set xb (dAt L' (xn : Int) + 1), Q' ++ [(xb : Int)], g', off2, cap2, ⟨HMN.out.2.trans HSM.out⟩, ⟨by rw [HTK.out]; exact HMN.out.1⟩, HDS5, HBN5, ⟨by have := HGB.out; rcases HG5.out with h | h; omega; rw [World.size_alloc] at h; omega⟩⟩
                    case measure => simp [intOf]; omega
                · have qa : ((xa : Int) == (xn : Int)) = false := beq_false_of_ne (by omega)
                  by_cases eb : xb = xn
                  · have qb : ((xb : Int) == (xn : Int)) = true := beq_iff_eq.2 (by omega)
                    have HE : Kept (x.b = (xn : Int)) := ⟨by rw [HXB.out, eb]⟩
                    clear ea eb
                    by_cases hd : 0 ≤ dAt L' (xa : Int)
                    · go_wp2_with (go_at_call 54; refine (visit_old _ (w.heap.size + 2) (w.heap.size + 4) bN (w.heap.size + 1) xa N.length L' HDS2.out.b7 HDS2.out.row (by rw [HMI.out.len]) la hd).mono ?_; rintro e w5 ⟨rfl, rfl⟩)
                      go_roundw
                      case rel => exact ⟨i + 1, by omega, by go_num, L', Q', g, off, cap, ⟨HSM.out⟩, ⟨by rw [HTK.out]; exact mid_old_b HN.out HMI.out (zip_mem_get HXC.out HUG.out) HE.out HXA.out hd⟩, HDS2, HBN2, ⟨HGB.out⟩⟩
                      case measure => simp [intOf]; omega
                    · replace hd : dAt L' (xa : Int) < 0 := by omega
                      have HMN := Kept.mk (mid_new_b HN.out HMI.out (zip_mem_get HXC.out HUG.out) HE.out HXA.out la hd)
                      have zg2 := HDS.out.q.lt
                      go_wp2_with (go_at_call 54; refine (visit_new _ (w.heap.size + 2) (w.heap.size + 4) bN (w.heap.size + 1) g off cap xa xn N.length L' Q' HDS2.out.b7 HDS2.out.row HBN2.out HDS2.out.b9 HDS2.out.q HMI.out.len la hxnn hd ⟨hx00, hxb1⟩ hQ' (by have := HGN.out; omega) (by omega) HGN.out.2).mono ?_; rintro e w5 hv5; obtain ⟨rfl, ⟨g', off2, cap2, hds5, hg5⟩, ho5⟩ := HDS2.out.visited hv5; have HDS5 := Kept.mk hds5; have HG5 := Kept.mk hg5; have HBN5 := Kept.mk (HBN2.out.only ho5 (by have := HGN.out; have := HGB.out; omega)); have HX5 := Kept.mk (HB13.out.only ho5 (by have := HGN.out; omega)); clear hv5 hds5 hg5 ho5 c0 c1 c2 c3 c4 c5 cu cN; have y0 := HX5.out.cell 0 (v := .int .i64 xa) rfl; have y2 := HX5.out.cell 2 (v := .int .i64 xb) rfl; have cN := HBN5.out.cell 0 (v := .int .i64 (xn : Int)) rfl; have cu := (HU.out.new_ HDS5.out.bel).cell_ HUG.out (j := 0) (u := .bool true) rfl; simp only [Nat.add_zero, Nat.mul_one] at cu; have zN5 := HBN5.out.lt; have zX5 := HX5.out.lt)
                      go_roundw
                      case rel => exact ⟨i + 1, by omega, by go_num, L'.set xa (dAt L' (xn : Int) + 1), Q' ++ [(xa : Int)], g', off2, cap2, ⟨HMN.out.2.trans HSM.out⟩, ⟨by rw [HTK.out]; exact HMN.out.1⟩, HDS5, HBN5, ⟨by have := HGB.out; rcases HG5.out with h | h; omega; rw [World.size_alloc] at h; omega⟩⟩
                      case measure => simp [intOf]; omega
                  · have qb : ((xb : Int) == (xn : Int)) = false := beq_false_of_ne (by omega)
                    have HMO := Kept.mk (mid_none HMI.out (c := x) (u := true) (fun _ => ⟨by rw [HXA.out]; omega, by rw [HXB.out]; omega⟩))
                    clear ea eb
                    go_wp2_with fail
                    go_roundw
                    case rel => exact ⟨i + 1, by omega, by go_num, L', Q', g, off, cap, ⟨HSM.out⟩, ⟨by rw [HTK.out]; exact HMO.out⟩, HDS2, HBN2, ⟨HGB.out⟩⟩
                    case measure => simp [intOf]; omega
            · obtain rfl : i = C.length := by omega
              clear hlt
              have HOU : Kept (Out (C.zip up) N.length (s : Int) L' Q') := ⟨by
                have h := HMI.out
                rw [List.take_of_length_le (by rw [List.length_zip]; omega)] at h
                exact h.out HN.out⟩
              go_wp2_with fail
              go_roundg (cnt L' + Q'.length)
              case measure => have := HSM.out; rw [List.length_cons]; omega
              case rel => exact ⟨L', Q', g, off, cap, rfl, by have := HSM.out; rw [List.length_cons] at hcn; omega, HOU, HDS⟩
theorem distances_ (N : List Nd) (C : List Cb) (An Ac Au : Option Addr) (kn kc ku s : Nat) (up : List Bool) (w : World) (hp : PlanAt w w.heap.size ⟨N, C, An, kn, Ac, kc⟩) (hu : RowsAt w w.heap.size 1 bcell1 Au up) (hv : validE N C = 0) (hlu : up.length = C.length) (hs : s < N.length) :
    Calls Try.prog 48 #[.agg #[.slice An N.length kn, .slice Ac C.length kc], .int .i64 (s : Int), .slice Au up.length ku] w (DistR w (C.zip up) N.length s) := by
  refine (distances_b N C An Ac Au kn kc ku s up w hp hu hv hlu hs).mono ?_
  rintro e w' ⟨g, kap, L, rfl, h1, h2, -, h3⟩
  exact ⟨_, kap, L, rfl, h1, h2.rows icell_len (by omega) h2.lt, h3⟩
end Go.Proofs.Ytckigonkcjceeaa
