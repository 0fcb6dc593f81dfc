/- For all plans, cables that are up, two lists of votes and nodes the statement ElectionLocal returns true: the new vote of a node depends on the votes of its neighbours alone. No condition. -/
import Derived.Test.YtckigonkcjceeaaEBase
import Derived.Test.YtckigonkcjceeaaELocal
import Derived.Test.YtckigonkcjceeaaERefRun
namespace Go.Proofs.Ytckigonkcjceeaa
open Go.ChangeShapes Go.WideShapes Go.ChangeAt Go.RowKit
set_option linter.unusedVariables false
set_option linter.unusedSimpArgs false
/-- What stands in memory. -/
structure LU (w0 W : World) (N : List Nd) (C : List Cb) (An Ac Au Av Ao : Option Addr) (kn kc : Nat) (up : List Bool) (V O : List Vt) : Prop where
  p : PlanAt W W.heap.size ⟨N, C, An, kn, Ac, kc⟩
  u : RowsAt W W.heap.size 1 bcell1 Au up
  v : RowsAt W W.heap.size 3 vcell Av V
  o : RowsAt W W.heap.size 3 vcell Ao O
  box : Blk W w0.heap.size 32 #[.slice An N.length kn, .slice Ac C.length kc]
  bel : Below w0.heap.size w0 W
theorem LU.new_ {w0 W W' : World} {N : List Nd} {C : List Cb} {An Ac Au Av Ao : Option Addr} {kn kc : Nat} {up : List Bool} {V O : List Vt} (h : LU w0 W N C An Ac Au Av Ao kn kc up V O) (hb : Below W.heap.size W W') : LU w0 W' N C An Ac Au Av Ao kn kc up V O :=
  ⟨h.p.new_ hb, h.u.new_ hb, h.v.new_ hb, h.o.new_ hb, h.box.new_ hb, join h.bel hb⟩
theorem Round_v (N : List Nd) (C : List Cb) (An Ac Au Av : Option Addr) (kn kc ku kv n : Nat) (up : List Bool) (votes : List Vt) (w : World) (h : ArgsAt w N C An Ac Au Av kn kc ku kv up votes) (hl : votes.length = n) (hf : faultE N C up votes = 0) :
    Calls Try.prog 25 #[.agg #[.slice An N.length kn, .slice Ac C.length kc], .slice Au up.length ku, .slice Av n kv] w fun e w' => ∃ A kap, e = .returned (.tuple #[.slice A n kap, .int .i64 0]) ∧ RowsAt w' w'.heap.size 3 vcell A (roundP C up votes) ∧ Below w.heap.size w w' := by
  subst hl
  refine (Round_ N C An Ac Au Av kn kc ku kv up votes w h).mono ?_
  rintro e w' ⟨A, kap, L, rfl, h1, h2, h3, h4, h5⟩
  rw [hf] at h1 ⊢
  rw [if_pos rfl] at h1
  subst h1
  exact ⟨A, kap, by rw [roundP_len], h2, h5⟩
theorem Round_f (N : List Nd) (C : List Cb) (An Ac Au Av : Option Addr) (kn kc ku kv n : Nat) (f : Int) (up : List Bool) (votes : List Vt) (w : World) (h : ArgsAt w N C An Ac Au Av kn kc ku kv up votes) (hl : votes.length = n) (hf : faultE N C up votes = f) :
    Calls Try.prog 25 #[.agg #[.slice An N.length kn, .slice Ac C.length kc], .slice Au up.length ku, .slice Av n kv] w fun e w' => ∃ A m kap, e = .returned (.tuple #[.slice A m kap, .int .i64 f]) ∧ Below w.heap.size w w' := by
  subst hl
  refine (Round_ N C An Ac Au Av kn kc ku kv up votes w h).mono ?_
  rintro e w' ⟨A, kap, L, rfl, h1, h2, h3, h4, h5⟩
  rw [hf] at h1 ⊢
  exact ⟨A, L.length, kap, rfl, h5⟩
theorem eqlSame (x : Vt) (w : World) : (binOp .eql 23 (.agg #[.int .i64 x.root, .int .i64 x.dist, .int .i64 x.port]) (.agg #[.int .i64 x.root, .int .i64 x.dist, .int .i64 x.port])).run Try.prog w = .ok (.bool true) w := by
  rw [eqlVtP, vB_vt, decide_eq_true rfl]
set_option maxRecDepth 100000 in
set_option maxHeartbeats 16000000 in
theorem local_walk (N : List Nd) (C : List Cb) (An Ac Au Av Ao : Option Addr) (kn kc ku kv ko : Nat) (up : List Bool) (votes others : List Vt) (node : Int) (w : World) (hp : PlanAt w w.heap.size ⟨N, C, An, kn, Ac, kc⟩) (hu : RowsAt w w.heap.size 1 bcell1 Au up) (hku : up.length ≤ ku) (hku2 : ku ≤ maxLen) (hv : RowsAt w w.heap.size 3 vcell Av votes) (hkv : votes.length ≤ kv) (hkv2 : kv ≤ maxLen) (ho : RowsAt w w.heap.size 3 vcell Ao others) (hko : others.length ≤ ko) (hko2 : ko ≤ maxLen) (hr : 0 ≤ node ∧ node ≤ 255) :
    Calls Try.prog 9 #[.agg #[.slice An N.length kn, .slice Ac C.length kc], .slice Au up.length ku, .slice Av votes.length kv, .slice Ao others.length ko, .int .u8 node] w fun e w' => e = .returned (.bool true) ∧ Below w.heap.size w w' := by
  have HP := Kept.mk hp
  have HU := Kept.mk hu
  have HV := Kept.mk hv
  have HO := Kept.mk ho
  obtain ⟨L1, L2⟩ := hp.len
  simp only at L1 L2
  have L3 : up.length ≤ 9223372036854775807 := by unfold maxLen at hku2; omega
  have L4 : votes.length ≤ 9223372036854775807 := by unfold maxLen at hkv2; omega
  have L5 : others.length ≤ 9223372036854775807 := by unfold maxLen at hko2; omega
  obtain ⟨r0, r1⟩ := hr
  clear hp hu hku hku2 hv hkv hkv2 ho hko hko2
  have HB := Kept.mk (Blk.new w 32 #[.slice An N.length kn, .slice Ac C.length kc])
  have HG : Kept (Below w.heap.size w (w.alloc (.cells #[.slice An N.length kn, .slice Ac C.length kc] 32))) := ⟨(Below.refl _ _).alloc (Nat.le_refl _) _⟩
  go_enter Try.func9, Try.ntmps9
  go_wp2_with (go_at_call 11; refine (awake_c _).mono ?_; rintro e w1 ⟨rfl, hb1⟩; have HB1 := Kept.mk (HB.out.new_ hb1); have HD1 := Kept.mk (join HG.out hb1); clear hb1; have k0 := HB1.out.cell 0 (v := .slice An N.length kn) rfl; have k1 := HB1.out.cell 1 (v := .slice Ac C.length kc) rfl; have z1 := HB1.out.lt)
  refine (great_ N.length C.length up.length votes.length An Ac Au Av kn kc ku kv _ L1 L2 L3 L4).mono ?_
  rintro e w2 ⟨rfl, hb2⟩
  have HB2 := Kept.mk (HB1.out.new_ hb2)
  have HD2 := Kept.mk (join HD1.out hb2)
  clear hb2 k0 k1 z1
  have k0 := HB2.out.cell 0 (v := .slice An N.length kn) rfl
  have k1 := HB2.out.cell 1 (v := .slice Ac C.length kc) rfl
  have z1 := HB2.out.lt
  cases hgr : greatB N.length C.length up.length votes.length with
  | true =>
    go_wp2_with fail
    go_ret
    exact ⟨rfl, HD2.out⟩
  | false =>
    obtain ⟨g1, g2, g3, g4⟩ := great_no hgr
    have HS2 : Kept (LU w w2 N C An Ac Au Av Ao kn kc up votes others) := ⟨HP.out.new_ HD2.out, HU.out.new_ HD2.out, HV.out.new_ HD2.out, HO.out.new_ HD2.out, HB2.out, HD2.out⟩
    clear HB HG HB1 HD1 HB2 HP HU HV HO
    by_cases hlo : others.length = votes.length
    · have q1 : ((others.length : Int) != (votes.length : Int)) = false := by simp; omega
      by_cases hl0 : votes.length = 0
      · have q2 : ((votes.length : Int) == 0) = true := beq_iff_eq.2 (by omega)
        clear hlo hl0
        go_wp2_with fail
        go_ret
        exact ⟨rfl, HD2.out⟩
      · have q2 : ((votes.length : Int) == 0) = false := beq_false_of_ne (by omega)
        have HLO := Kept.mk hlo
        have HA2 : Kept (ArgsAt w2 N C An Ac Au Av kn kc ku kv up votes) := ⟨HS2.out.p, HS2.out.u, HS2.out.v, by omega, by omega⟩
        by_cases hf1 : faultE N C up votes = 0
        · have HF1 := Kept.mk hf1
          have HRL := Kept.mk (roundP_len C up votes)
          by_cases hf2 : faultE N C up others = 0
          · have HF2 := Kept.mk hf2
            obtain ⟨e1, e2, e3, e4⟩ := faultE_zero.1 hf1
            have HE1 := Kept.mk e1
            have HE2 := Kept.mk e2
            have HE3 := Kept.mk e3
            have HE4 := Kept.mk e4
            have HE5 := Kept.mk (faultE_zero.1 hf2).2.2.2
            have hn16 := (valid_spec e1).1
            have hv16 : votes.length ≤ 16 := by omega
            have HN := Kept.mk (net_of (up := up) e1)
            have hcp : 0 ≤ node % (votes.length : Int) ∧ node % (votes.length : Int) < votes.length := ⟨Int.emod_nonneg _ (by omega), Int.emod_lt_of_pos _ (by omega)⟩
            obtain ⟨i, hi⟩ : ∃ i : Nat, node % (votes.length : Int) = i := ⟨(node % (votes.length : Int)).toNat, by omega⟩
            rw [hi] at hcp
            have hil : i < votes.length := by omega
            have tk : True := trivial
            clear hlo hf1 hf2 e1 e2 e3 e4 hcp
            go_wp2_with (first | (go_at_call 25; have _t := tk; refine (Round_v N C An Ac Au Av kn kc ku kv votes.length up votes _ HA2.out rfl HF1.out).mono ?_; rintro e w3 ⟨A3, k3, rfl, hr3, hb3⟩; have HR3 := Kept.mk hr3; have HS3 := Kept.mk (HS2.out.new_ hb3); clear hr3 hb3 k0 k1 z1 tk _t; have k0 := HS3.out.box.cell 0 (v := .slice An N.length kn) rfl; have k1 := HS3.out.box.cell 1 (v := .slice Ac C.length kc) rfl; have z1 := HS3.out.box.lt) | (go_at_call 25; refine (Round_v N C An Ac Au Ao kn kc ku ko others.length up others _ ⟨HS3.out.p, HS3.out.u, HS3.out.o, by omega, by have := HLO.out; omega⟩ rfl HF2.out).mono ?_; rintro e w4 ⟨A4, k4, rfl, hr4, hb4⟩; have HR4 := Kept.mk (HR3.out.new_ hb4); have HS4 := Kept.mk (HS3.out.new_ hb4); clear hr4 hb4 k0 k1 z1; have k0 := HS4.out.box.cell 0 (v := .slice An N.length kn) rfl; have k1 := HS4.out.box.cell 1 (v := .slice Ac C.length kc) rfl; have z1 := HS4.out.box.lt))
            refine (Distances_ N C An Ac Au kn kc ku i up _ HS4.out.p HS4.out.u HE1.out HE2.out (by have := HE3.out; omega)).mono ?_
            rintro e w5 ⟨A5, k5, L, rfl, hF, hr5, hb5⟩
            have HF := Kept.mk hF
            have HQ5 := Kept.mk hr5
            have HR5 := Kept.mk (HR4.out.new_ hb5)
            have HS5 := Kept.mk (HS4.out.new_ hb5)
            clear hF hr5 hb5 k0 k1 z1
            have k0 := HS5.out.box.cell 0 (v := .slice An N.length kn) rfl
            have k1 := HS5.out.box.cell 1 (v := .slice Ac C.length kc) rfl
            have z1 := HS5.out.box.lt
            go_wp2_with (go_at_call 34; refine (cloneV_c Av kv votes _ _ HS5.out.v (Nat.le_refl _) (by omega)).mono ?_; rintro e w6 ⟨vm, rfl, ho6, hb6⟩; obtain ⟨g, gc, cur, rfl, hg1, hg2, hgb, hg4, hg5⟩ := own_spot ho6 (by omega); have HM6 : Kept (RowsAt w6 w6.heap.size 3 vcell (some ⟨g, 0, none⟩) votes) := ⟨RowsAt.of_own ho6 vcell_len (by omega) rfl⟩; have HG6 : Kept (∃ cur, Blk w6 g 23 cur) := ⟨⟨cur, hgb⟩⟩; have HB6 := Kept.mk hb6; have hgw : w5.heap.size ≤ g := hg1; clear ho6 hb6 hgb hg1 hg2 k0 k1 z1)
            have HLL := Kept.mk HF.out.len
            go_loopw [72] (fun v wr => ∃ k : Nat, k ≤ votes.length ∧ v = .int .i64 k ∧ Kept (RowsAt wr wr.heap.size 3 vcell (some ⟨g, 0, none⟩) (mixP L votes others k)) ∧ Kept (∃ cur, Blk wr g 23 cur) ∧ Kept (Below w5.heap.size w5 wr)) (fun v _ => votes.length - (intOf v).toNat)
            case atStart => exact ⟨0, Nat.zero_le _, rfl, ⟨by rw [mixP_zero]; exact HM6.out⟩, HG6, HB6⟩
            case round =>
              clear HM6 HG6 HB6
              obtain ⟨k, hk, rfl, HM, HGB, HD⟩ := hrel
              have HS7 := Kept.mk (HS5.out.new_ HD.out)
              obtain ⟨cur, hgb⟩ := HGB.out
              have zg := hgb.lt
              have z1 := HS7.out.box.lt
              have k0 := HS7.out.box.cell 0 (v := .slice An N.length kn) rfl
              have k1 := HS7.out.box.cell 1 (v := .slice (Ac) C.length kc) rfl
              by_cases hlt : k < votes.length
              · have hkn : k < N.length := by have := HE3.out; omega
                have hko : k < others.length := by have := HLO.out; omega
                obtain ⟨t, bt, ot, ht, rfl, -, hbt, hct⟩ := (HQ5.out.new_ HD.out).at_ (k := k) (by rw [HLL.out]; have := HE3.out; omega)
                have t0 := hct 0 (.int .i64 t) rfl
                simp only [Nat.add_zero, Nat.mul_one] at t0
                by_cases ht1 : t = 1
                · have q3 : (t != 1) = false := by simp [ht1]
                  have HMX : Kept (mixP L votes others (k + 1) = mixP L votes others k) := ⟨mixP_same (by rw [dAt_get ht]; exact ht1)⟩
                  clear ht1 hct ht hgb
                  go_wp2_with fail
                  go_roundw
                  case rel => exact ⟨k + 1, by omega, by go_num, ⟨by rw [HMX.out]; exact HM.out⟩, HGB, HD⟩
                  case measure => simp [intOf]; omega
                · have q3 : (t != 1) = true := by simp [ht1]
                  obtain ⟨x, bo, oo, hx, rfl, -, hbo, hco⟩ := HS7.out.o.at_ (k := k) (by have := HLO.out; omega)
                  have x0 := hco 0 (.int .i64 x.root) rfl
                  have x1 := hco 1 (.int .i64 x.dist) rfl
                  have x2 := hco 2 (.int .i64 x.port) rfl
                  simp only [Nat.add_zero] at x0
                  have HMX : Kept (mixP L votes others (k + 1) = (mixP L votes others k).set k x) := ⟨mixP_set (by rw [dAt_get ht]; exact ht1) hx⟩
                  have HML : Kept ((mixP L votes others k).length = votes.length) := ⟨mixP_len _ _ _ _⟩
                  obtain ⟨y, hy⟩ := get_some (l := mixP L votes others k) (k := k) (by rw [HML.out]; exact hlt)
                  have y0 := HM.out.cell_ hy (j := 0) rfl
                  have y1 := HM.out.cell_ hy (j := 1) rfl
                  have y2 := HM.out.cell_ hy (j := 2) rfl
                  simp only [Nat.add_zero, Nat.zero_add] at y0 y1 y2
                  have f0 := hgb.free (k * 3)
                  have f1 := hgb.free (k * 3 + 1)
                  have f2 := hgb.free (k * 3 + 2)
                  clear ht1 hct ht hco hx hy hgb
                  go_wp2_with fail
                  go_roundw
                  case rel => exact ⟨k + 1, by omega, by go_num, ⟨by rw [HMX.out]; exact (HM.out.set3 (by rw [HML.out]; exact hlt) rfl).more (by simp)⟩, ⟨by obtain ⟨c0, h⟩ := HGB.out; exact ⟨_, ((h.set_ (k * 3) _).set_ (k * 3 + 1) _).set_ (k * 3 + 2) _⟩⟩, ⟨((HD.out.setCell (by simp <;> omega) _).setCell (by simp <;> omega) _).setCell (by simp <;> omega) _⟩⟩
                  case measure => simp [intOf]; omega
              · obtain rfl : k = votes.length := by omega
                have HFM : Kept (faultE N C up (mixP L votes others votes.length) = 0) := ⟨faultE_zero.2 ⟨HE1.out, HE2.out, by rw [mixP_len]; exact HE3.out, mixP_ok HLO.out HE4.out HE5.out⟩⟩
                have HML : Kept ((mixP L votes others votes.length).length = votes.length) := ⟨mixP_len _ _ _ _⟩
                have HAM : Kept (ArgsAt wr N C An Ac Au (some ⟨g, 0, none⟩) kn kc ku gc up (mixP L votes others votes.length)) := ⟨HS7.out.p, HS7.out.u, HM.out, by omega, by rw [HML.out]; omega⟩
                have HSAME : Kept ((roundP C up (mixP L votes others votes.length))[i]? = (roundP C up votes)[i]?) := ⟨by
                  have h := HE3.out
                  rw [roundP_get (by rw [HML.out]; exact hil), roundP_get hil, HML.out]
                  rw [local_eq HN.out HF.out (V := votes) (fun y y0 y1 hy => mixP_vote y0 (by omega) hy)]⟩
                have HR7 := Kept.mk (HR5.out.new_ HD.out)
                clear hlt hgb
                go_wp2_with (go_at_call 25; refine (Round_v N C An Ac Au (some ⟨g, 0, none⟩) kn kc ku gc votes.length up (mixP L votes others votes.length) _ HAM.out HML.out HFM.out).mono ?_; rintro e w8 ⟨A8, k8, rfl, hr8, hb8⟩; have HQ8 := Kept.mk hr8; have HR8 := Kept.mk (HR7.out.new_ hb8); have HS8 := Kept.mk (HS7.out.new_ hb8); clear hr8 hb8 k0 k1 z1)
                obtain ⟨x, b1, o1, hx, rfl, -, hb1, hc1⟩ := HR8.out.at_ (k := i) (by rw [HRL.out]; exact hil)
                obtain ⟨x', b2, o2, hx', rfl, -, hb2, hc2⟩ := HQ8.out.at_ (k := i) (by rw [roundP_len, HML.out]; exact hil)
                rw [HSAME.out, hx] at hx'
                injection hx' with hx'
                subst hx'
                have x0 := hc1 0 (.int .i64 x.root) rfl
                have x1 := hc1 1 (.int .i64 x.dist) rfl
                have x2 := hc1 2 (.int .i64 x.port) rfl
                have y0 := hc2 0 (.int .i64 x.root) rfl
                have y1 := hc2 1 (.int .i64 x.dist) rfl
                have y2 := hc2 2 (.int .i64 x.port) rfl
                simp only [Nat.add_zero] at x0 y0
                have hq := eqlSame x
                clear hc1 hc2 hx
                go_quiet (fail)
                go_wp2_with fail
                go_ret
                exact ⟨rfl, dN HS8.out.bel _⟩
          · obtain ⟨f, hfe⟩ : ∃ f, faultE N C up others = f := ⟨_, rfl⟩
            have q3 : (f != 0) = true := by rw [← hfe]; simpa using hf2
            have HFE := Kept.mk hfe
            have tk : True := trivial
            clear hlo hf1 hf2 hfe
            go_wp2_with (first | (go_at_call 25; have _t := tk; refine (Round_v N C An Ac Au Av kn kc ku kv votes.length up votes _ HA2.out rfl HF1.out).mono ?_; rintro e w3 ⟨A3, k3, rfl, hr3, hb3⟩; have HS3 := Kept.mk (HS2.out.new_ hb3); clear hr3 hb3 k0 k1 z1 tk _t; have k0 := HS3.out.box.cell 0 (v := .slice An N.length kn) rfl; have k1 := HS3.out.box.cell 1 (v := .slice Ac C.length kc) rfl; have z1 := HS3.out.box.lt) | (go_at_call 25; refine (Round_f N C An Ac Au Ao kn kc ku ko others.length f up others _ ⟨HS3.out.p, HS3.out.u, HS3.out.o, by omega, by have := HLO.out; omega⟩ rfl HFE.out).mono ?_; rintro e w4 ⟨A4, m4, k4, rfl, hb4⟩; have HS4 := Kept.mk (HS3.out.new_ hb4); clear hb4))
            go_ret
            exact ⟨rfl, HS4.out.bel⟩
        · obtain ⟨f, hfe⟩ : ∃ f, faultE N C up votes = f := ⟨_, rfl⟩
          have q3 : (f != 0) = true := by rw [← hfe]; simpa using hf1
          have HFE := Kept.mk hfe
          have tk : True := trivial
          clear hlo hf1 hfe
          go_wp2_with (first | (go_at_call 25; have _t := tk; refine (Round_f N C An Ac Au Av kn kc ku kv votes.length f up votes _ HA2.out rfl HFE.out).mono ?_; rintro e w3 ⟨A3, m3, k3, rfl, hb3⟩; have HS3 := Kept.mk (HS2.out.new_ hb3); clear hb3 k0 k1 z1 tk _t; have k0 := HS3.out.box.cell 0 (v := .slice An N.length kn) rfl; have k1 := HS3.out.box.cell 1 (v := .slice Ac C.length kc) rfl; have z1 := HS3.out.box.lt) | (go_at_call 25; refine (Round_f N C An Ac Au Ao kn kc ku ko others.length _ up others _ ⟨HS3.out.p, HS3.out.u, HS3.out.o, by omega, by have := HLO.out; omega⟩ rfl rfl).mono ?_; rintro e w4 ⟨A4, m4, k4, rfl, hb4⟩; have HS4 := Kept.mk (HS3.out.new_ hb4); clear hb4))
          go_ret
          exact ⟨rfl, HS4.out.bel⟩
    · have q1 : ((others.length : Int) != (votes.length : Int)) = true := by simp; omega
      clear hlo
      go_wp2_with fail
      go_ret
      exact ⟨rfl, HD2.out⟩
theorem walkElectionLocal (p : Pl) (Au : Option Addr) (ku : Nat) (up : List Bool) (Av : Option Addr) (kv : Nat) (votes : List Vt) (Ao : Option Addr) (ko : Nat) (others : List Vt) (node : Int) (w : World) (hp : PlanAt w w.heap.size p) (hu : RowsAt w w.heap.size 1 bcell1 Au up) (hku : up.length ≤ ku) (hku2 : ku ≤ maxLen) (hv : RowsAt w w.heap.size 3 vcell Av votes) (_ : ∀ v ∈ votes, VtOk v) (hkv : votes.length ≤ kv) (hkv2 : kv ≤ maxLen) (ho : RowsAt w w.heap.size 3 vcell Ao others) (_ : ∀ v ∈ others, VtOk v) (hko : others.length ≤ ko) (hko2 : ko ≤ maxLen) (hr : 0 ≤ node ∧ node ≤ 255) :
    Calls Try.prog 9 #[pv p, .slice Au up.length ku, .slice Av votes.length kv, .slice Ao others.length ko, .int .u8 node] w fun e w' => e = .returned (.bool true) ∧ Below w.heap.size w w' := by
  cases p
  exact local_walk _ _ _ _ _ _ _ _ _ _ _ _ _ _ _ _ _ hp hu hku hku2 hv hkv hkv2 ho hko hko2 hr

set_option maxRecDepth 100000 in
theorem liftedElectionLocal (os : Os) (started : os.Started) (H : Type) (enc : TypeId × Value → H) :
    ReturnsInHanded {} Try.checked os 9 .any (Rows.electionLocalSpec.pre6 enc Try.prog Try.f9 Rows.electionLocalRow.domain false) (Rows.electionLocalSpec.post enc Try.prog Try.f9 false true false false) := by
  refine returnsInHanded_of_change (C := Try.checked) own started (by kernel_rfl) Try.func9
    (ChangeSpec.witness6 (enc := enc) (C := Try.checked) false ⟨#[], #[.agg #[.slice none 0 0, .slice none 0 0], .slice none 0 0, .slice none 0 0, .slice none 0 0, .int .u8 0], []⟩ 8 (by kernel_rfl) (by kernel_rfl) (by kernel_rfl) (by kernel_rfl)) ?_
  intro W base args ds gs before hval0 hW hcnd _
  have hval : ∀ (j : Nat) t v, Try.f9.params[j]? = some t → args[j]? = some v → Value.okWide Try.prog W .any base t v := hval0
  have hW' := hW
  obtain ⟨p, q, hA0, hV, rfl, hfz, hnd⟩ := hW
  have hA : DataW.TrodAll enc Try.prog W 0 (fun _ => true) true Try.f9.params.toList args.toList ds p := hA0
  rw [Try.params9] at hA hval
  obtain ⟨v0, vs0, d0, ds0, p0, q0, hargs, rfl, rfl, h0, r0⟩ := trodAll_cons hA
  obtain ⟨v1, vs1, d1, ds1, p1, q1, rfl, rfl, rfl, h1, r1⟩ := trodAll_cons r0
  obtain ⟨v2, vs2, d2, ds2, p2, q2, rfl, rfl, rfl, h2, r2⟩ := trodAll_cons r1
  obtain ⟨v3, vs3, d3, ds3, p3, q3, rfl, rfl, rfl, h3, r3⟩ := trodAll_cons r2
  obtain ⟨v4, vs4, d4, ds4, p4, q4, rfl, rfl, rfl, h4, r4⟩ := trodAll_cons r3
  obtain ⟨rfl, rfl, rfl⟩ := trodAll_nil r4
  obtain rfl : args = #[v0, v1, v2, v3, v4] := by cases args; simp_all
  obtain ⟨rfl, rfl⟩ := trodVars_none hV
  have k0 := h0
  have lt0 : ∀ x ∈ p0, x.block < W.heap.size := by obtain ⟨m, hm⟩ := k0; exact DataW.trod_lt m _ _ _ hm
  have k1 := h1
  have lt1 : ∀ x ∈ p1, x.block < W.heap.size := by obtain ⟨m, hm⟩ := k1; exact DataW.trod_lt m _ _ _ hm
  have k2 := h2
  have lt2 : ∀ x ∈ p2, x.block < W.heap.size := by obtain ⟨m, hm⟩ := k2; exact DataW.trod_lt m _ _ _ hm
  have k3 := h3
  have lt3 : ∀ x ∈ p3, x.block < W.heap.size := by obtain ⟨m, hm⟩ := k3; exact DataW.trod_lt m _ _ _ hm
  have k4 := h4
  have lt4 : ∀ x ∈ p4, x.block < W.heap.size := by obtain ⟨m, hm⟩ := k4; exact DataW.trod_lt m _ _ _ hm
  obtain ⟨q0, rfl, pa0⟩ := open_plan (hval 0 32 v0 rfl rfl) h0
  obtain ⟨A1, kap1, l1, rfl, r1x, le1, mx1⟩ := open_up (hval 1 33 v1 rfl rfl) h1
  obtain ⟨A2, kap2, l2, rfl, r2x, ok2, le2, mx2⟩ := open_votes (hval 2 37 v2 rfl rfl) h2
  obtain ⟨A3, kap3, l3, rfl, r3x, ok3, le3, mx3⟩ := open_votes (hval 3 37 v3 rfl rfl) h3
  obtain ⟨a4, rfl, -, -, ww4⟩ := open_int Try.underlying5 (hval 4 5 v4 rfl rfl) h4
  have w4 := bounds_u8 ww4
  clear hA0 hval0
  refine (walkElectionLocal q0 A1 kap1 l1 A2 kap2 l2 A3 kap3 l3 a4 W pa0 r1x le1 mx1 r2x ok2 le2 mx2 r3x ok3 le3 mx3 w4).mono fun e W' ⟨he, bel⟩ => ?_
  subst he
  exact ⟨_, rfl, _, _, _, [], _, [], hW', trodAll_mk1 (shut_bool Try.underlying4 _), (trodAll_cons_mk (Below.trod laidOut (by kernel_rfl) (of_decide_eq_true (by kernel_rfl)) k0 bel lt0) (trodAll_cons_mk (Below.trod laidOut (by kernel_rfl) (of_decide_eq_true (by kernel_rfl)) k1 bel lt1) (trodAll_cons_mk (Below.trod laidOut (by kernel_rfl) (of_decide_eq_true (by kernel_rfl)) k2 bel lt2) (trodAll_cons_mk (Below.trod laidOut (by kernel_rfl) (of_decide_eq_true (by kernel_rfl)) k3 bel lt3) (trodAll_cons_mk (Below.trod laidOut (by kernel_rfl) (of_decide_eq_true (by kernel_rfl)) k4 bel lt4) trodAll_mk0))))), rfl, bel.frame _, fun h => by cases h⟩
/-- The given statement. -/
theorem electionLocal_holds : Rows.ElectionLocalSaid :=
  OpenClaim.holds_of_wide 9 Try.f9 rfl rfl rfl rfl rfl rfl rfl ⟨rfl, rfl, rfl, rfl, rfl⟩ rfl rfl rfl rfl rfl (by kernel_rfl) Try.func9 (by kernel_rfl)
    (of_decide_eq_true (by kernel_rfl)) (by unfold Func.isWrapper; first | (rw [if_pos (by decide +kernel)]; kernel_rfl) | (rw [if_neg (by decide +kernel)]; exact ⟨rfl, rfl⟩))
    (fun os started H enc _ => liftedElectionLocal os started H enc)
#print axioms electionLocal_holds
end Go.Proofs.Ytckigonkcjceeaa
