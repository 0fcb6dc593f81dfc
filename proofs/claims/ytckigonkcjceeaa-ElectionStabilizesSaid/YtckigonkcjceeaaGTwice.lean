/- The reference's twice: the same as repeats, pair by pair. -/
import Derived.Test.YtckigonkcjceeaaGRep
namespace Go.Proofs.Ytckigonkcjceeaa
set_option linter.unusedVariables false
set_option linter.unusedSimpArgs false
open Go.RowKit Go.Maps
def endC (x : Int × Int) : List Value := [.int .i64 x.1, .int .i64 x.2]
theorem endC_len (x : Int × Int) : (endC x).length = 2 := rfl
theorem endC_one (l : List (Int × Int)) : ∀ u ∈ l.flatMap endC, u.oneCell' = true := by
  intro u hu
  obtain ⟨x, -, hx⟩ := List.mem_flatMap.1 hu
  simp [endC] at hx
  rcases hx with rfl | rfl <;> rfl
theorem infoEnd : (Try.prog.info? 90).map (fun i => (i.zero, i.size, i.bytes)) = some (some (.agg #[.int .i64 0, .int .i64 0]), 2, 16) := by kernel_rfl
theorem cells3 : Try.prog.cellsOf 3 = 1 := by kernel_rfl
theorem eq3 (w : World) (d : Nat) (a b : Int) : (Op.equalIn (d + 1) 3 (.int .i64 a) (.int .i64 b)).run Try.prog w = .ok (a == b) w := by
  simp [Op.equalIn, run_underlying Try.underlying3]
set_option maxHeartbeats 1000000 in
theorem eqEnd (w : World) (d : Nat) (a b a' b' : Int) : (Op.equalIn (d + 2) 90 (.agg #[.int .i64 a, .int .i64 b]) (.agg #[.int .i64 a', .int .i64 b'])).run Try.prog w = .ok (a == a' && b == b') w := by
  rw [Op.equalIn]
  simp [run_underlying Try.underlying90, eq3]
  by_cases h1 : a = a' <;> by_cases h2 : b = b' <;> simp [List.range'_succ, part, cells3, eq3, h1, h2, run_underlying Try.underlying3]
theorem eqlEnd (w : World) (a b a' b' : Int) : (binOp .eql 90 (.agg #[.int .i64 a, .int .i64 b]) (.agg #[.int .i64 a', .int .i64 b'])).run Try.prog w = .ok (.bool (a == a' && b == b')) w := by
  simp only [binOp]
  simp [Op.equal, Op.maxDepth, eqEnd w 9998]
theorem str_eq {a b : ByteArray} (h : a = b) : (a.toList == b.toList) = true := by subst h; simp
theorem str_ne {a b : ByteArray} (h : a ≠ b) : (a.toList == b.toList) = false := by
  refine beq_false_of_ne fun e => h ?_
  rw [ByteArray.toList_eq, ByteArray.toList_eq] at e
  exact ByteArray.ext (Array.toList_inj.1 e)
theorem ends_len (C : List Cb) : (ends C).length = 2 * C.length := by
  induction C with
  | nil => rfl
  | cons c C ih => unfold ends at ih ⊢; rw [List.flatMap_cons, List.length_append, ih]; simp; omega
theorem mem_take_next {α : Type} {l : List α} {k : Nat} {x y : α} (hx : l[k]? = some x) (h : y ∉ l.take k) (hne : y ≠ x) : y ∉ l.take (k + 1) := by
  rw [take_next hx]; simp [h, hne]
theorem mem_take_lt {α : Type} {l : List α} {k i : Nat} {x : α} (hx : l[k]? = some x) (hk : k < i) : x ∈ l.take i := by
  refine List.mem_of_getElem? (i := k) ?_
  rw [List.getElem?_take_of_lt hk]; exact hx
theorem names_get {N : List Nd} {k : Nat} {x : Nd} (h : N[k]? = some x) : (names N)[k]? = some x.name := by unfold names; rw [List.getElem?_map, h]; rfl
theorem names_take (N : List Nd) (k : Nat) : names (N.take k) = (names N).take k := by unfold names; rw [List.map_take]
set_option maxRecDepth 100000 in
set_option maxHeartbeats 8000000 in
theorem twice_ (N : List Nd) (C : List Cb) (An Ac : Option Addr) (kn kc : Nat) (w : World) (hp : PlanAt w w.heap.size ⟨N, C, An, kn, Ac, kc⟩) (hn : N.length ≤ 1000) (hc : C.length ≤ 1000) :
    Calls Try.prog 53 #[.agg #[.slice An N.length kn, .slice Ac C.length kc]] w fun e w' => e = .returned (.bool (repB N C)) ∧ Below w.heap.size w w' := by
  have HP := Kept.mk hp
  clear hp
  go_enter Try.func53, Try.ntmps53
  go_wp2_with fail
  have HB0 := Kept.mk (Blk.new w 32 #[.slice An N.length kn, .slice Ac C.length kc])
  go_loopw [3] (fun v wr => ∃ i : Nat, i ≤ N.length ∧ v = .int .i64 i ∧ Kept ((names N).take i).Nodup ∧ Kept (Blk wr w.heap.size 32 #[.slice An N.length kn, .slice Ac C.length kc]) ∧ Kept (Below w.heap.size w wr)) (fun v _ => N.length - (intOf v).toNat)
  case atStart => exact ⟨0, Nat.zero_le _, rfl, ⟨by simp⟩, HB0, ⟨by go_grown⟩⟩
  case round =>
    clear HB0
    obtain ⟨i, hi, rfl, HN, HB, HD⟩ := hrel
    have k0 := HB.out.cell 0 (v := .slice An N.length kn) rfl
    have k1 := HB.out.cell 1 (v := .slice Ac C.length kc) rfl
    by_cases hlt : i < N.length
    · obtain ⟨x, b, off, hx, rfl, -, hb, c0, -⟩ := (HP.out.new_ HD.out).nod hlt
      have HX := Kept.mk hx
      clear hx c0
      obtain ⟨wo, rfl⟩ : ∃ wo : World, wo = wr := ⟨_, rfl⟩
      go_wp2_with fail
      go_loopw [4] (fun v wr => ∃ k : Nat, k ≤ i ∧ v = .int .i64 k ∧ Kept (x.name ∉ (names N).take k) ∧ Kept (Blk wr w.heap.size 32 #[.slice (some ⟨b, off, none⟩) N.length kn, .slice Ac C.length kc]) ∧ Kept (Below w.heap.size w wr)) (fun v _ => i - (intOf v).toNat)
      case atStart => exact ⟨0, Nat.zero_le _, rfl, ⟨by simp⟩, HB, HD⟩
      case round =>
        clear k0 k1 HB HD
        obtain ⟨k, hk, rfl, HM, HB, HD⟩ := hrel
        have k0 := HB.out.cell 0 (v := .slice (some ⟨b, off, none⟩) N.length kn) rfl
        have k1 := HB.out.cell 1 (v := .slice Ac C.length kc) rfl
        by_cases hki : k < i
        · obtain ⟨x', b1, off1, hx1, hA1, -, hb1, c0, -⟩ := (HP.out.new_ HD.out).nod hlt
          rw [HX.out] at hx1
          injection hx1 with hx1
          injection hA1 with hA1
          injection hA1 with e1 e2
          subst e1; subst e2; subst hx1
          obtain ⟨y, b2, off2, hy, hA2, -, hb2, e0, -⟩ := (HP.out.new_ HD.out).nod (show k < N.length by omega)
          injection hA2 with hA2
          injection hA2 with e1 e2
          subst e1; subst e2
          have HY := Kept.mk hy
          have j1 : (0 : Int) ≤ i := by omega
          have j2 : (i : Int) < N.length := by omega
          have j3 : (0 : Int) ≤ k := by omega
          have j4 : (k : Int) < N.length := by omega
          clear hy
          by_cases he : x.name = y.name
          · have HR := Kept.mk (rep_names (cables := C) HX.out (by rw [names_take, he]; exact mem_take_lt (names_get HY.out) hki))
            have q := str_eq he
            clear he
            go_wp2_with fail
            go_quiet (fail)
            go_wp2_with fail
            go_ret
            exact ⟨ret_bool HR.out.symm, dN HD.out _⟩
          · have HM2 := Kept.mk (mem_take_next (names_get HY.out) HM.out he)
            have q := str_ne he
            clear he
            go_wp2_with fail
            go_quiet (fail)
            go_wp2_with fail
            go_roundw
            case rel => exact ⟨k + 1, by omega, by go_num, HM2, ⟨HB.out.drewN _⟩, ⟨dN HD.out _⟩⟩
            case measure => simp [intOf]; omega
        · obtain rfl : k = i := by omega
          have HN2 : Kept ((names N).take (k + 1)).Nodup := ⟨by rw [take_next (names_get HX.out), nodup_snoc]; exact ⟨HN.out, HM.out⟩⟩
          clear hki
          go_wp2_with fail
          go_roundw
          case rel => exact ⟨k + 1, by omega, by go_num, HN2, HB, HD⟩
          case measure => simp [intOf]; omega
    · obtain rfl : i = N.length := by omega
      have HNN : Kept (names N).Nodup := ⟨by have := HN.out; rwa [show N.length = (names N).length by simp [names], List.take_length] at this⟩
      obtain ⟨jj, hjj, hy0, hy1, hy2⟩ := info_parts infoEnd
      obtain ⟨wa, rfl⟩ : ∃ wa : World, wa = wr := ⟨_, rfl⟩
      clear hlt HN k0 k1
      have k0 := HB.out.cell 0 (v := .slice An N.length kn) rfl
      have k1 := HB.out.cell 1 (v := .slice Ac C.length kc) rfl
      go_wp2_with fail
      go_loopw [5, 6] (fun v5 v wr => ∃ k : Nat, k ≤ C.length ∧ v = .int .i64 k ∧ Kept (wr.ownsRow (w.heap.size + 1) 90 2 v5 (2 * k) ((ends (C.take k)).flatMap endC)) ∧ Kept (Blk wr w.heap.size 32 #[.slice An N.length kn, .slice Ac C.length kc]) ∧ Kept (Below w.heap.size w wr)) (fun _ v _ => C.length - (intOf v).toNat)
      case atStart => exact ⟨0, Nat.zero_le _, rfl, ⟨World.ownsRow_nil _ _ _ _⟩, HB, HD⟩
      case round =>
        clear k0 k1 HB HD
        obtain ⟨k, hk, rfl, HO, HB, HD⟩ := hrel
        have hz := HD.out.size
        have hzz : w.heap.size < wr.heap.size := HB.out.lt
        have k0 := HB.out.cell 0 (v := .slice An N.length kn) rfl
        by_cases hlt : k < C.length
        · obtain ⟨x, b, off, hx, rfl, -, hb, ⟨c0, c1, c2, c3, c4, c5⟩, -⟩ := (HP.out.new_ HD.out).cab hlt
          have k1 := HB.out.cell 1 (v := .slice (some ⟨b, off, none⟩) C.length kc) rfl
          have HE := Kept.mk (ends_next hx)
          have hk8 : (k : Int) < C.length := by omega
          clear hx
          have HR := Kept.mk (reads_made (wr.alloc (.cells #[.int .i64 x.a, .int .i64 x.ap, .int .i64 x.b, .int .i64 x.bp, .int .i64 x.delay, .int .i64 x.cap] 42)) #[.int .i64 x.a, .int .i64 x.ap, .int .i64 x.b, .int .i64 x.bp] 90 2 2 rfl)
          have HO2 := Kept.mk ((HO.out.alloc (.cells #[.int .i64 x.a, .int .i64 x.ap, .int .i64 x.b, .int .i64 x.bp, .int .i64 x.delay, .int .i64 x.cap] 42)).alloc (.cells #[.int .i64 x.a, .int .i64 x.ap, .int .i64 x.b, .int .i64 x.bp] 90))
          have h1 : ∀ u ∈ (#[.int .i64 x.a, .int .i64 x.ap, .int .i64 x.b, .int .i64 x.bp] : Array Value).toList, u.oneCell' = true := (by intro u hu; simp at hu; rcases hu with rfl | rfl | rfl | rfl <;> rfl)
          go_wp2_with (at_builtin; refine wpList_append_any _ rfl _ _ _ rfl (w.heap.size + 1) 90 jj _ 2 16 Try.underlying94 hjj hy0 hy1 hy2 rfl (by omega) _ (2 * k) _ rfl HO2.out _ _ 2 2 _ rfl (by simpa using HR.out) h1 (by unfold maxLen; omega) (by omega) (by simp; omega) ?_; intro v' w2 ho hg hat; have HO3 := Kept.mk ho; have HG := Kept.mk hg; clear ho hg hat)
          go_roundw
          case rel => exact ⟨k + 1, by omega, by go_num, ⟨by rw [HE.out, List.flatMap_append]; exact HO3.out⟩, ⟨((HB.out.alloc _).alloc _).grown HG.out (fun e => own_blk_ne HO2.out ((HB.out.alloc _).alloc _) (by decide) e.symm)⟩, ⟨(((HD.out.alloc hz _).alloc (by simp; omega) _).grown HG.out (by simp; omega) (fun j hj => by have := HO2.out.lt j hj; omega))⟩⟩
          case measure => simp [intOf]; omega
        · obtain rfl : k = C.length := by omega
          have HO2 : Kept (wr.ownsRow (w.heap.size + 1) 90 2 u5 (2 * C.length) ((ends C).flatMap endC)) := ⟨by have := HO.out; rwa [List.take_length] at this⟩
          obtain ⟨Ae, ke, hve⟩ := own_slice HO2.out
          have hle : (ends C).length = 2 * C.length := ends_len C
          have hlb : (ends C).length ≤ 2000 := by omega
          subst hve
          have HRE : Kept (RowsAt wr wr.heap.size 2 endC Ae (ends C)) := ⟨RowsAt.of_own HO2.out endC_len (by omega) hle.symm⟩
          rw [← hle]
          have k1 := HB.out.cell 1 (v := .slice Ac C.length kc) rfl
          obtain ⟨wb, rfl⟩ : ∃ wb : World, wb = wr := ⟨_, rfl⟩
          clear hlt hle HO
          go_wp2_with fail
          generalize hEL : ends C = EL at *
          go_loopw [8] (fun v wr => ∃ i : Nat, i ≤ EL.length ∧ v = .int .i64 i ∧ Kept (EL.take i).Nodup ∧ Kept (Below wb.heap.size wb wr)) (fun v _ => EL.length - (intOf v).toNat)
          case atStart => exact ⟨0, Nat.zero_le _, rfl, ⟨by simp⟩, ⟨Below.refl _ _⟩⟩
          case round =>
            obtain ⟨i, hi, rfl, HN, HD2⟩ := hrel
            by_cases hlt : i < EL.length
            · obtain ⟨x, b, off, hx, rfl, -, hb, -⟩ := (HRE.out.new_ HD2.out).at_ hlt
              have HX := Kept.mk hx
              clear hx
              obtain ⟨wo, rfl⟩ : ∃ wo : World, wo = wr := ⟨_, rfl⟩
              go_wp2_with fail
              go_loopw [9] (fun v wr => ∃ k : Nat, k ≤ i ∧ v = .int .i64 k ∧ Kept (x ∉ EL.take k) ∧ Kept (Below wb.heap.size wb wr)) (fun v _ => i - (intOf v).toNat)
              case atStart => exact ⟨0, Nat.zero_le _, rfl, ⟨by simp⟩, HD2⟩
              case round =>
                clear HD2
                obtain ⟨k, hk, rfl, HM, HD2⟩ := hrel
                by_cases hki : k < i
                · obtain ⟨x', b1, off1, hx1, hA1, -, hb1, hcx⟩ := (HRE.out.new_ HD2.out).at_ hlt
                  rw [HX.out] at hx1
                  injection hx1 with hx1
                  injection hA1 with hA1
                  injection hA1 with e1 e2
                  subst e1; subst e2; subst hx1
                  obtain ⟨y, b2, off2, hy, hA2, -, hb2, hcy⟩ := (HRE.out.new_ HD2.out).at_ (show k < EL.length by omega)
                  injection hA2 with hA2
                  injection hA2 with e1 e2
                  subst e1; subst e2
                  have HY := Kept.mk hy
                  obtain ⟨x1, x2⟩ := x
                  obtain ⟨y1, y2⟩ := y
                  have c0 := hcx 0 (.int .i64 x1) rfl
                  have c1 := hcx 1 (.int .i64 x2) rfl
                  have e0 := hcy 0 (.int .i64 y1) rfl
                  have e1 := hcy 1 (.int .i64 y2) rfl
                  simp only [Nat.add_zero] at c0 e0
                  have j1 : (0 : Int) ≤ i := by omega
                  have j2 : (i : Int) < EL.length := by omega
                  have j3 : (0 : Int) ≤ k := by omega
                  have j4 : (k : Int) < EL.length := by omega
                  clear hy hcx hcy
                  have heq := fun w => eqlEnd w x1 x2 y1 y2
                  by_cases he : ((x1, x2) : Int × Int) = (y1, y2)
                  · have HR : Kept (repB N C = true) := ⟨by
                      have hm : (x1, x2) ∈ EL.take i := by rw [he]; exact mem_take_lt HY.out hki
                      have hnd : ¬ (ends C).Nodup := fun hd => by
                        rw [hEL] at hd
                        have h1 := nodup_prefix (k := i + 1) hd
                        rw [take_next HX.out, nodup_snoc] at h1
                        exact h1.2 hm
                      simp [repB, dup_yes hnd]⟩
                    have q : (x1 == y1 && x2 == y2) = true := by simpa using he
                    have heq2 := fun w => (heq w).trans (by rw [q])
                    clear he heq q
                    go_wp2_with fail
                    go_quiet (fail)
                    go_wp2_with fail
                    go_ret
                    exact ⟨ret_bool HR.out.symm, HD.out.trans ((dN HD2.out _).mono HD.out.size)⟩
                  · have HM2 := Kept.mk (mem_take_next HY.out HM.out he)
                    have q : (x1 == y1 && x2 == y2) = false := by simpa using he
                    have heq2 := fun w => (heq w).trans (by rw [q])
                    clear he heq q
                    go_wp2_with fail
                    go_quiet (fail)
                    go_wp2_with fail
                    go_roundw
                    case rel => exact ⟨k + 1, by omega, by go_num, HM2, ⟨dN HD2.out _⟩⟩
                    case measure => simp [intOf]; omega
                · obtain rfl : k = i := by omega
                  have HN2 : Kept (EL.take (k + 1)).Nodup := ⟨by rw [take_next HX.out, nodup_snoc]; exact ⟨HN.out, HM.out⟩⟩
                  clear hki
                  go_wp2_with fail
                  go_roundw
                  case rel => exact ⟨k + 1, by omega, by go_num, HN2, HD2⟩
                  case measure => simp [intOf]; omega
            · obtain rfl : i = EL.length := by omega
              have HR : Kept (repB N C = false) := ⟨rep_no HNN.out (by rw [hEL]; have := HN.out; rwa [List.take_length] at this)⟩
              clear hlt
              go_wp2_with fail
              go_ret
              exact ⟨ret_bool HR.out.symm, HD.out.trans (HD2.out.mono HD.out.size)⟩
theorem twice_c (p : Pl) (w : World) (hp : PlanAt w w.heap.size p) (hn : p.nodes.length ≤ 1000) (hc : p.cables.length ≤ 1000) :
    Calls Try.prog 53 #[pv p] w fun e w' => e = .returned (.bool (repB p.nodes p.cables)) ∧ Below w.heap.size w w' := by
  cases p
  exact twice_ _ _ _ _ _ _ w hp hn hc
end Go.Proofs.Ytckigonkcjceeaa
