/- exchange.same: two states with the same shares. exchange.Run. exchange.Rates and exchange.Bound. -/
import Derived.Test.YtjalegdfofogcaaExcM
import Derived.Test.YtjalegdfofogcaaSlc
namespace Go.Proofs.Ytjalegdfofogcaa
set_option linter.unusedVariables false
set_option linter.unusedSimpArgs false
open Go.RowKit
def eqBs (l m : List Bool) : Bool := (List.range l.length).all fun j => l.getD j false == m.getD j false
def eqAt (a b : PSt) (l : Nat) : Bool := a.op.getD l false || cmpQ (a.sh.getD l rq0) (b.sh.getD l rq0) == 0
def sameB (nl : Nat) (a b : PSt) : Bool := eqBs a.op b.op && (List.range nl).all (eqAt a b)
set_option maxRecDepth 100000 in
set_option maxHeartbeats 4000000 in
theorem eqb_c (l m : List Bool) (A A' : Option Addr) (kap kap' : Nat) (w : World) (hl : RowsAt w w.heap.size 1 boolc A l) (hm : RowsAt w w.heap.size 1 boolc A' m) (he : m.length = l.length) (hn : l.length ≤ 1000000) :
    Calls Try.prog 63 #[.slice A l.length kap, .slice A' l.length kap'] w fun e w' => e = .returned (.bool (eqBs l m)) ∧ Below w.heap.size w w' := by
  have HL := Kept.mk hl
  have HM := Kept.mk hm
  have HE := Kept.mk he
  obtain ⟨ANS, hA⟩ : ∃ a, a = eqBs l m := ⟨_, rfl⟩
  rw [← hA]
  have HA := Kept.mk hA
  obtain ⟨n, hnn⟩ : ∃ n, n = l.length := ⟨_, rfl⟩
  have HN := Kept.mk hnn
  rw [← hnn] at hn ⊢
  clear hl hm he hA hnn
  go_enter Try.func63, Try.ntmps63
  go_wp2_with fail
  go_loopw [13] (fun v wr => ∃ k : Nat, k ≤ n ∧ v = .int .i64 k ∧ Kept (∀ j, j < k → (l.getD j false == m.getD j false) = true) ∧ Kept (Below w.heap.size w wr)) (fun v _ => n - (intOf v).toNat)
  case atStart => exact ⟨0, by omega, rfl, ⟨fun j hj => by omega⟩, ⟨Below.refl _ _⟩⟩
  case round =>
    obtain ⟨k, hk, rfl, HB, HD⟩ := hrel
    by_cases hlt : k < n
    · obtain ⟨x, b, off, hx, rfl, -, hb, hcx⟩ := (HL.out.new_ HD.out).at_ (show k < l.length by rw [← HN.out]; exact hlt)
      obtain ⟨y, b', off', hy, rfl, -, hb', hcy⟩ := (HM.out.new_ HD.out).at_ (show k < m.length by rw [HE.out, ← HN.out]; exact hlt)
      have c0 := hcx 0 (.bool x) rfl
      have d0 := hcy 0 (.bool y) rfl
      simp only [Nat.add_zero, Nat.mul_one] at c0 d0
      have hgx : l.getD k false = x := by rw [List.getD_eq_getElem?_getD, hx]; rfl
      have hgy : m.getD k false = y := by rw [List.getD_eq_getElem?_getD, hy]; rfl
      have HG := Kept.mk (And.intro hgx hgy)
      clear hcx hcy hx hy hgx hgy
      cases x with
      | true =>
       cases y with
       | true =>
        have HB2 : Kept (∀ j, j < k + 1 → (l.getD j false == m.getD j false) = true) := ⟨fun j hj => by
          by_cases e : j = k
          · subst e; rw [HG.out.1, HG.out.2]; rfl
          · exact HB.out j (by omega)⟩
        go_upto_region 6 with fail
        go_quiet (fail)
        go_wp2_with fail
        go_roundw
        case rel => exact ⟨k + 1, by omega, by go_num, HB2, ⟨dN HD.out nq⟩⟩
        case measure => simp [intOf]; omega
       | false =>
        have HAF : Kept (ANS = false) := ⟨by rw [HA.out]; unfold eqBs; exact List.all_eq_false.2 ⟨k, List.mem_range.2 (by rw [← HN.out]; exact hlt), by rw [HG.out.1, HG.out.2]; decide⟩⟩
        go_upto_region 6 with fail
        go_quiet (fail)
        go_wp2_with fail
        go_ret
        exact ⟨ret_bool HAF.out.symm, dN HD.out nq⟩
      | false =>
       cases y with
       | true =>
        have HAF : Kept (ANS = false) := ⟨by rw [HA.out]; unfold eqBs; exact List.all_eq_false.2 ⟨k, List.mem_range.2 (by rw [← HN.out]; exact hlt), by rw [HG.out.1, HG.out.2]; decide⟩⟩
        go_upto_region 6 with fail
        go_quiet (fail)
        go_wp2_with fail
        go_ret
        exact ⟨ret_bool HAF.out.symm, dN HD.out nq⟩
       | false =>
        have HB2 : Kept (∀ j, j < k + 1 → (l.getD j false == m.getD j false) = true) := ⟨fun j hj => by
          by_cases e : j = k
          · subst e; rw [HG.out.1, HG.out.2]; rfl
          · exact HB.out j (by omega)⟩
        go_upto_region 6 with fail
        go_quiet (fail)
        go_wp2_with fail
        go_roundw
        case rel => exact ⟨k + 1, by omega, by go_num, HB2, ⟨dN HD.out nq⟩⟩
        case measure => simp [intOf]; omega
    · obtain rfl : k = n := by omega
      have HAT : Kept (ANS = true) := ⟨by rw [HA.out]; unfold eqBs; exact List.all_eq_true.2 fun j hj => HB.out j (by rw [HN.out]; exact List.mem_range.1 hj)⟩
      clear hlt
      go_wp2_with fail
      go_ret
      exact ⟨ret_bool HAT.out.symm, HD.out⟩
set_option maxHeartbeats 4000000 in
theorem same1_c (x y : Rq) (bl ba k nl sk ok : Nat) (sA oA : Option Addr) (op : List Bool) (w : World) (hx : R64 x.n ∧ R64 x.d) (hy : R64 y.n ∧ R64 y.d) (hbl : Blk w bl 3 #[.int .i64 (k : Int)]) (hba : Blk w ba 54 #[.slice sA nl sk, .slice oA nl ok]) (ho : RowsAt w w.heap.size 1 boolc oA op) (hlo : op.length = nl) (hk : k < nl) (hnl : nl ≤ 32) (hne : bl ≠ ba) (hbo : ∀ a, oA = some a → a.block ≠ bl) :
    Calls Try.prog 64 #[.agg #[.int .i64 x.n, .int .i64 x.d], .agg #[.int .i64 y.n, .int .i64 y.d], .pointer (some ⟨bl, 0, none⟩), .pointer (some ⟨ba, 0, none⟩)] w fun e w' => e = .returned (.bool (op.getD k false || cmpQ x y == 0)) ∧ Blk w' bl 3 #[.int .i64 ((k + 1 : Nat) : Int)] ∧ OnlyP (fun b => b = bl) w w' := by
  have CM := fun w => cmp_c x y w hx.1 hx.2 hy.1 hy.2
  unfold rqv at CM
  obtain ⟨u, bO, oO, hu, rfl, -, hbO, hcl⟩ := ho.at_ (show k < op.length by omega)
  have d0 := hcl 0 (.bool u) rfl
  simp only [Nat.add_zero, Nat.mul_one] at d0
  have hgu : op.getD k false = u := by rw [List.getD_eq_getElem?_getD, hu]; rfl
  rw [hgu]
  have hob := hbo _ rfl
  dsimp only at hob
  obtain ⟨z, hz⟩ : ∃ z, z = cmpQ x y := ⟨_, rfl⟩
  rw [← hz] at CM ⊢
  obtain ⟨k1, hk1⟩ : ∃ z : Int, z = ((k + 1 : Nat) : Int) := ⟨_, rfl⟩
  have hw1 : IntKind.i64.wrap ((k : Int) + 1) = k1 := by rw [hk1]; exact IntWalk.i64_in _ (by omega)
  have hw2 : IntKind.i64.wrap (k1 - 1) = (k : Int) := by rw [hk1, IntWalk.i64_in _ (by omega)]; omega
  rw [← hk1]
  clear hk1
  obtain ⟨U, hU, HU⟩ : ∃ U, U = (w.alloc (.cells #[.int .i64 x.n, .int .i64 x.d] 32)).alloc (.cells #[.int .i64 y.n, .int .i64 y.d] 32) ∧ Kept (Blk U bl 3 #[.int .i64 (k : Int)] ∧ Blk U ba 54 #[.slice sA nl sk, .slice (some ⟨bO, oO, none⟩) nl ok] ∧ OnlyP (fun b => b = bl) w U ∧ U.cell? ⟨bO, oO + k, none⟩ = some (.bool u) ∧ Blk U w.heap.size 32 #[.int .i64 x.n, .int .i64 x.d] ∧ Blk U (w.heap.size + 1) 32 #[.int .i64 y.n, .int .i64 y.d] ∧ bO < U.heap.size) := by
    have h2 := Blk.new (w.alloc (.cells #[.int .i64 x.n, .int .i64 x.d] 32)) 32 #[.int .i64 y.n, .int .i64 y.d]
    rw [World.size_alloc] at h2
    exact ⟨_, rfl, ⟨(hbl.alloc _).alloc _, (hba.alloc _).alloc _, ((OnlyP.refl _ w).alloc _).alloc _, (World.cell?_alloc_lt _ _ _ (by rw [World.size_alloc]; simp only; omega)).trans ((World.cell?_alloc_lt _ _ _ hbO).trans d0), (Blk.new _ _ _).alloc _, h2, by rw [World.size_alloc, World.size_alloc]; omega⟩⟩
  have hlb : w.heap.size ≠ bl ∧ w.heap.size + 1 ≠ bl := by have := hbl.lt; omega
  clear hx hy hbl hba ho hcl hu hgu hbo d0 hz
  go_enter Try.func64, Try.ntmps64
  go_upto_region 1 with fail
  rw [← hU]
  clear hU
  have b0 := HU.out.1.cell 0 (v := .int .i64 (k : Int)) rfl
  have bf := HU.out.1.free 0
  have bll := HU.out.1.lt
  go_upto_region 2 with fail
  obtain ⟨V, hV, HV⟩ : ∃ V, V = U.setCell ⟨bl, 0, none⟩ (.int .i64 k1) ∧ Kept (Blk V bl 3 #[.int .i64 k1] ∧ Blk V ba 54 #[.slice sA nl sk, .slice (some ⟨bO, oO, none⟩) nl ok] ∧ OnlyP (fun b => b = bl) w V ∧ V.cell? ⟨bO, oO + k, none⟩ = some (.bool u) ∧ Blk V w.heap.size 32 #[.int .i64 x.n, .int .i64 x.d] ∧ Blk V (w.heap.size + 1) 32 #[.int .i64 y.n, .int .i64 y.d]) := by
    refine ⟨_, rfl, ⟨HU.out.1.to 0 _ rfl, HU.out.2.1.far (p := ⟨bl, 0, none⟩) (fun e => hne e.symm) _, HU.out.2.2.1.set (p := ⟨bl, 0, none⟩) (.inl rfl) _, ?_, HU.out.2.2.2.2.1.far (p := ⟨bl, 0, none⟩) hlb.1 _, HU.out.2.2.2.2.2.1.far (p := ⟨bl, 0, none⟩) hlb.2 _⟩⟩
    rw [World.cell?_setCell_other _ _ _ _ (fun e => by injection e with e; exact hob e.symm)]
    exact HU.out.2.2.2.1
  rw [← hV]
  clear hV HU b0 bf bll
  have b0 := HV.out.1.cell 0 (v := .int .i64 k1) rfl
  have bll := HV.out.1.lt
  have a1 := HV.out.2.1.cell 1 (v := .slice (some ⟨bO, oO, none⟩) nl ok) rfl
  have al := HV.out.2.1.lt
  have d0 := HV.out.2.2.2.1
  have x0 := HV.out.2.2.2.2.1.cell 0 (v := .int .i64 x.n) rfl
  have x1 := HV.out.2.2.2.2.1.cell 1 (v := .int .i64 x.d) rfl
  have xl := HV.out.2.2.2.2.1.lt
  have y0 := HV.out.2.2.2.2.2.cell 0 (v := .int .i64 y.n) rfl
  have y1 := HV.out.2.2.2.2.2.cell 1 (v := .int .i64 y.d) rfl
  have yl := HV.out.2.2.2.2.2.lt
  cases u with
  | true =>
    go_wp2_with fail
    go_ret
    exact ⟨rfl, HV.out.1, HV.out.2.2.1⟩
  | false =>
    go_wp2_with (go_at_call 9; refine (CM _).mono ?_; rintro e w3 ⟨rfl, hb3⟩; have HV3 : Kept (Blk w3 bl 3 #[.int .i64 k1] ∧ OnlyP (fun b => b = bl) w w3) := ⟨HV.out.1.new_ hb3, HV.out.2.2.1.new hb3⟩; clear hb3)
    go_ret
    exact ⟨ret_bool (by simp), HV3.out.1, HV3.out.2⟩
set_option maxRecDepth 100000 in
set_option maxHeartbeats 8000000 in
theorem eqf64_c (a b : PSt) (nl bl ba : Nat) (w : World) (ha : XAt w ba nl a) (hb : XAt w ba nl b) (hbl : Blk w bl 3 #[.int .i64 ((0 : Nat) : Int)]) (hba : Blk w ba 54 #[.slice a.sA nl a.sk, .slice a.oA nl a.ok]) (hnl : nl ≤ 32) (hne : ba < bl) :
    Calls Try.prog 40 #[.slice a.sA nl a.sk, .slice b.sA nl b.sk, .func (.func 64) #[] #[.pointer (some ⟨bl, 0, none⟩), .pointer (some ⟨ba, 0, none⟩)]] w fun e w' => e = .returned (.bool ((List.range nl).all (eqAt a b))) ∧ OnlyP (fun q => q = bl) w w' := by
  have HAA := Kept.mk ha
  have HBB := Kept.mk hb
  have HBL := Kept.mk hbl
  have HBA := Kept.mk hba
  obtain ⟨ANS, hA⟩ : ∃ v, v = (List.range nl).all (eqAt a b) := ⟨_, rfl⟩
  rw [← hA]
  have HA := Kept.mk hA
  obtain ⟨ash, asA, ask, aop, aoA, aok⟩ := a
  obtain ⟨bsh, bsA, bsk, bop, boA, bok⟩ := b
  dsimp only at HBA ⊢
  clear ha hb hbl hba hA
  go_enter Try.func40, Try.ntmps40
  go_wp2_with fail
  go_loopw [17] (fun v wr => ∃ k : Nat, k ≤ nl ∧ v = .int .i64 k ∧ Kept (∀ j, j < k → eqAt ⟨ash, asA, ask, aop, aoA, aok⟩ ⟨bsh, bsA, bsk, bop, boA, bok⟩ j = true) ∧ Kept (OnlyP (fun q => q = bl) w wr ∧ Blk wr bl 3 #[.int .i64 ((k : Nat) : Int)])) (fun v _ => nl - (intOf v).toNat)
  case atStart => exact ⟨0, by omega, rfl, ⟨fun j hj => by omega⟩, ⟨OnlyP.refl _ _, HBL.out⟩⟩
  case round =>
    obtain ⟨k, hk, rfl, HP, HD⟩ := hrel
    by_cases hlt : k < nl
    · have kp : ∀ p : Addr, p.block < ba → wr.cell? p = w.cell? p := fun p hp => World.cell?_of_block (HD.out.1.block p.block (by have := HBA.out.lt; omega) (by omega))
      have hgz : w.heap.size ≤ wr.heap.size := HD.out.1.size
      obtain ⟨x, b1, off, hx, rfl, hb1, -, hcx⟩ := (HAA.out.keep kp).rs.at_ (show k < ash.length by rw [HAA.out.num.ls]; exact hlt)
      obtain ⟨y, b2, off', hy, rfl, hb2, -, hcy⟩ := (HBB.out.keep kp).rs.at_ (show k < bsh.length by rw [HBB.out.num.ls]; exact hlt)
      dsimp only at hx hy
      have c0 := hcx 0 (.int .i64 x.n) rfl
      have c1 := hcx 1 (.int .i64 x.d) rfl
      have d0 := hcy 0 (.int .i64 y.n) rfl
      have d1 := hcy 1 (.int .i64 y.d) rfl
      simp only [Nat.add_zero] at c0 d0
      have hx64 := okQ_R64 (HAA.out.num.ok x (List.mem_of_getElem? hx))
      have hy64 := okQ_R64 (HBB.out.num.ok y (List.mem_of_getElem? hy))
      have heq : eqAt ⟨ash, some ⟨b1, off, none⟩, ask, aop, aoA, aok⟩ ⟨bsh, some ⟨b2, off', none⟩, bsk, bop, boA, bok⟩ k = (aop.getD k false || cmpQ x y == 0) := by
        unfold eqAt
        dsimp only
        rw [show ash.getD k rq0 = x by rw [List.getD_eq_getElem?_getD, hx]; rfl, show bsh.getD k rq0 = y by rw [List.getD_eq_getElem?_getD, hy]; rfl]
      have HXY := Kept.mk (And.intro hx64 hy64)
      have hlt2 := HBA.out.lt
      have hlb : b1 < wr.heap.size ∧ b2 < wr.heap.size := by omega
      obtain ⟨hlb1, hlb2⟩ := hlb
      have HKP := Kept.mk kp
      have HLT2 := Kept.mk (And.intro hlt2 hgz)
      clear hx hy hcx hcy hx64 hy64 kp hlt2
      go_upto_region 7 with fail
      obtain ⟨V, hV, HV⟩ : ∃ V, V = (wr.alloc (.cells #[.int .i64 x.n, .int .i64 x.d] 32)).alloc (.cells #[.int .i64 y.n, .int .i64 y.d] 32) ∧ Kept (OnlyP (fun q => q = bl) w V ∧ Blk V bl 3 #[.int .i64 ((k : Nat) : Int)] ∧ Blk V wr.heap.size 32 #[.int .i64 x.n, .int .i64 x.d] ∧ Blk V (wr.heap.size + 1) 32 #[.int .i64 y.n, .int .i64 y.d]) := by
        have h2 := Blk.new (wr.alloc (.cells #[.int .i64 x.n, .int .i64 x.d] 32)) 32 #[.int .i64 y.n, .int .i64 y.d]
        rw [World.size_alloc] at h2
        exact ⟨_, rfl, ⟨(HD.out.1.alloc _).alloc _, (HD.out.2.alloc _).alloc _, (Blk.new _ _ _).alloc _, h2⟩⟩
      rw [← hV]
      clear hV HD c0 c1 d0 d1
      have HS1 := same1_c x y bl ba k nl ask aok (some ⟨b1, off, none⟩) aoA aop V HXY.out.1 HXY.out.2 HV.out.2.1 (HBA.out.only HV.out.1 (by omega)) (((HAA.out.ro.keep (w' := V) fun p hp => World.cell?_of_block (HV.out.1.block p.block (by have := HLT2.out.1; omega) (by omega))).more (by have := HLT2.out.1; have := HV.out.1.size; omega))) HAA.out.num.lo hlt hnl (by omega) (fun a ha => by
        obtain ⟨u, b3, o3, -, e3, hb3, -, -⟩ := HAA.out.ro.at_ (show k < aop.length by rw [HAA.out.num.lo]; exact hlt)
        dsimp only at e3
        rw [ha] at e3
        injection e3 with e3
        rw [e3]
        simp only
        omega)
      have x0 := HV.out.2.2.1.cell 0 (v := .int .i64 x.n) rfl
      have x1 := HV.out.2.2.1.cell 1 (v := .int .i64 x.d) rfl
      have xl := HV.out.2.2.1.lt
      have y0 := HV.out.2.2.2.cell 0 (v := .int .i64 y.n) rfl
      have y1 := HV.out.2.2.2.cell 1 (v := .int .i64 y.d) rfl
      have yl := HV.out.2.2.2.lt
      cases hans : (aop.getD k false || cmpQ x y == 0) with
      | true =>
        rw [hans] at HS1 heq
        have HP2 := Kept.mk (below_next HP.out heq)
        clear hans heq
        go_wp2_with (go_at_call 64; refine HS1.mono ?_; rintro e w3 ⟨rfl, h1, h2⟩; have HV3 : Kept (OnlyP (fun q => q = bl) w w3 ∧ Blk w3 bl 3 #[.int .i64 ((k + 1 : Nat) : Int)]) := ⟨HV.out.1.trans h2, h1⟩; clear h1 h2)
        go_roundw
        case rel => exact ⟨k + 1, by omega, by go_num, HP2, HV3⟩
        case measure => simp [intOf]; omega
      | false =>
        rw [hans] at HS1 heq
        have HAF : Kept (ANS = false) := ⟨by rw [HA.out]; exact List.all_eq_false.2 ⟨k, List.mem_range.2 hlt, by rw [heq]; decide⟩⟩
        clear hans heq
        go_wp2_with (go_at_call 64; refine HS1.mono ?_; rintro e w3 ⟨rfl, h1, h2⟩; have HV3 : Kept (OnlyP (fun q => q = bl) w w3) := ⟨HV.out.1.trans h2⟩; clear h1 h2)
        go_ret
        exact ⟨ret_bool HAF.out.symm, HV3.out⟩
    · obtain rfl : k = nl := by omega
      have HAT : Kept (ANS = true) := ⟨by rw [HA.out]; exact List.all_eq_true.2 fun j hj => HP.out j (List.mem_range.1 hj)⟩
      clear hlt
      go_wp2_with fail
      go_ret
      exact ⟨ret_bool HAT.out.symm, HD.out.1⟩
set_option maxRecDepth 100000 in
set_option maxHeartbeats 8000000 in
theorem same_c (a b : PSt) (nl : Nat) (w : World) (ha : XAt w w.heap.size nl a) (hb : XAt w w.heap.size nl b) (hnl : nl ≤ 32) :
    Calls Try.prog 49 #[.agg #[.slice a.sA nl a.sk, .slice a.oA nl a.ok], .agg #[.slice b.sA nl b.sk, .slice b.oA nl b.ok]] w fun e w' => e = .returned (.bool (sameB nl a b)) ∧ Below w.heap.size w w' := by
  have HAA := Kept.mk ha
  have HBB := Kept.mk hb
  obtain ⟨ANS, hA⟩ : ∃ v, v = sameB nl a b := ⟨_, rfl⟩
  rw [← hA]
  have HA := Kept.mk hA
  obtain ⟨ash, asA, ask, aop, aoA, aok⟩ := a
  obtain ⟨bsh, bsA, bsk, bop, boA, bok⟩ := b
  dsimp only
  clear ha hb hA
  have hla : aop.length = nl := HAA.out.num.lo
  have hlb : bop.length = nl := HBB.out.num.lo
  obtain ⟨U, hU, HU⟩ : ∃ U, U = ((w.alloc (.cells #[.slice asA nl ask, .slice aoA nl aok] 54)).alloc (.cells #[.slice bsA nl bsk, .slice boA nl bok] 54)).alloc (.cells #[.int .i64 0] 3) ∧ Kept (Blk U w.heap.size 54 #[.slice asA nl ask, .slice aoA nl aok] ∧ Blk U (w.heap.size + 1) 54 #[.slice bsA nl bsk, .slice boA nl bok] ∧ Blk U (w.heap.size + 2) 3 #[.int .i64 0] ∧ Below w.heap.size w U) := by
    have h1 := Blk.new (w.alloc (.cells #[.slice asA nl ask, .slice aoA nl aok] 54)) 54 #[.slice bsA nl bsk, .slice boA nl bok]
    have h2 := Blk.new ((w.alloc (.cells #[.slice asA nl ask, .slice aoA nl aok] 54)).alloc (.cells #[.slice bsA nl bsk, .slice boA nl bok] 54)) 3 #[.int .i64 0]
    rw [World.size_alloc] at h1
    rw [World.size_alloc, World.size_alloc] at h2
    exact ⟨_, rfl, ⟨((Blk.new _ _ _).alloc _).alloc _, h1.alloc _, h2, by go_grown⟩⟩
  have EB := eqb_c aop bop aoA boA aok bok U ((HAA.out.new_ HU.out.2.2.2).ro) ((HBB.out.new_ HU.out.2.2.2).ro) (by rw [hlb, hla]) (by omega)
  rw [hla] at EB
  have HEF := Kept.mk (fun w1 (h : Below U.heap.size U w1) => eqf64_c ⟨ash, asA, ask, aop, aoA, aok⟩ ⟨bsh, bsA, bsk, bop, boA, bok⟩ nl (w.heap.size + 2) w.heap.size w1 (HAA.out.below (join HU.out.2.2.2 h)) (HBB.out.below (join HU.out.2.2.2 h)) (HU.out.2.2.1.new_ h) (HU.out.1.new_ h) hnl (by omega))
  dsimp only at HEF
  clear hla hlb
  go_enter Try.func49, Try.ntmps49
  go_upto_region 2 with fail
  rw [← hU]
  clear hU
  have a0 := HU.out.1.cell 0 (v := .slice asA nl ask) rfl
  have a1 := HU.out.1.cell 1 (v := .slice aoA nl aok) rfl
  have al := HU.out.1.lt
  have b0 := HU.out.2.1.cell 0 (v := .slice bsA nl bsk) rfl
  have b1 := HU.out.2.1.cell 1 (v := .slice boA nl bok) rfl
  have bl := HU.out.2.1.lt
  cases heb : eqBs aop bop with
  | false =>
    rw [heb] at EB
    have HAF : Kept (ANS = false) := ⟨by rw [HA.out]; unfold sameB; dsimp only; rw [heb]; rfl⟩
    clear heb
    go_wp2_with (go_at_call 63; refine EB.mono ?_; rintro e w1 ⟨rfl, hb1⟩; have HD1 := Kept.mk (join HU.out.2.2.2 hb1); clear hb1)
    go_ret
    exact ⟨ret_bool HAF.out.symm, HD1.out⟩
  | true =>
    rw [heb] at EB
    obtain ⟨al2, hal2⟩ : ∃ v, v = (List.range nl).all (eqAt ⟨ash, asA, ask, aop, aoA, aok⟩ ⟨bsh, bsA, bsk, bop, boA, bok⟩) := ⟨_, rfl⟩
    rw [← hal2] at HEF
    have HAT : Kept (ANS = al2) := ⟨by rw [HA.out]; unfold sameB; dsimp only; rw [heb, Bool.true_and]; exact hal2.symm⟩
    clear heb hal2
    go_wp2_with (first | (go_at_call 63; refine EB.mono ?_; rintro e w1 ⟨rfl, hb1⟩; have HD1 := Kept.mk (join HU.out.2.2.2 hb1); have EF := HEF.out w1 hb1; have HA1 := Kept.mk (HU.out.1.new_ hb1); have HB1 := Kept.mk (HU.out.2.1.new_ hb1); clear hb1 a0 a1 al b0 b1 bl; have a0 := HA1.out.cell 0 (v := .slice asA nl ask) rfl; have al := HA1.out.lt; have b0 := HB1.out.cell 0 (v := .slice bsA nl bsk) rfl; have bl := HB1.out.lt) | (go_at_call 40; refine EF.mono ?_; rintro e w2 ⟨rfl, ho2⟩; have HD2 := Kept.mk (joinP HD1.out ho2 (fun q hq => by omega) (Nat.le_refl _)); clear ho2))
    go_ret
    exact ⟨ret_bool HAT.out.symm, HD2.out⟩
/-- Two states are the same just if each link has the same share. -/
theorem same_iff {nl : Nat} {a b : PSt} (ha : StNum nl a) (hb : StNum nl b) : sameB nl a b = true ↔ ∀ l, l < nl → shO a l = shO b l := by
  unfold sameB eqBs
  rw [Bool.and_eq_true, List.all_eq_true, List.all_eq_true, ha.lo]
  constructor
  · rintro ⟨h1, h2⟩ l hl
    have e1 := h1 l (List.mem_range.2 hl)
    have e2 := h2 l (List.mem_range.2 hl)
    have e1' : a.op.getD l false = b.op.getD l false := by simpa using e1
    unfold shO
    rw [← e1']
    cases h : a.op.getD l false with
    | true => rfl
    | false =>
      unfold eqAt at e2
      rw [h, Bool.false_or] at e2
      have e3 : cmpQ (a.sh.getD l rq0) (b.sh.getD l rq0) = 0 := by simpa using e2
      rw [(cmpQ_val (ha.ok.getD l) (hb.ok.getD l)).2.1 e3]
  · intro h
    refine ⟨fun l hl => ?_, fun l hl => ?_⟩
    · have := h l (List.mem_range.1 hl)
      unfold shO at this
      cases h1 : a.op.getD l false <;> cases h2 : b.op.getD l false <;> rw [h1, h2] at this <;> simp at this ⊢
    · have := h l (List.mem_range.1 hl)
      unfold shO at this
      unfold eqAt
      cases h1 : a.op.getD l false with
      | true => rfl
      | false =>
        rw [h1] at this
        cases h2 : b.op.getD l false with
        | true => rw [h2] at this; simp at this
        | false =>
          rw [h2] at this
          simp only [Bool.false_eq_true, if_false, Option.some.injEq] at this
          rw [(cmpQ_val (ha.ok.getD l) (hb.ok.getD l)).2.2 this]
          rfl
end Go.Proofs.Ytjalegdfofogcaa
namespace Go.Proofs.Ytjalegdfofogcaa
set_option linter.unusedVariables false
set_option linter.unusedSimpArgs false
open Go.RowKit
set_option maxHeartbeats 1000000 in
theorem cloneB_c (A : Option Addr) (n kap : Nat) (xs : List Value) (w : World) (B : Nat) (h : Reads w B 1 A n xs) (hB : B ≤ w.heap.size) (h1 : ∀ u ∈ xs, u.oneCell' = true) (hn : n ≤ 1000000) :
    Calls Try.prog 47 #[.slice A n kap] w (Clones w 4 1 n xs) := by
  obtain ⟨i0, hi0, hz0, hz1, hz2⟩ := info_parts infoO
  rcases A with _ | ad
  · obtain ⟨rfl, rfl⟩ := reads_nil h
    have hq := fun (w : World) => Lib.run_eql_slice_nil w 47 4 none 0 kap 0 0 Try.underlying47
    simp only [Option.isNone] at hq
    go_enter Try.func47, Try.ntmps47
    go_wp2_with fail
    go_ret
    exact ⟨_, rfl, World.ownsRow_nil _ _ _ _, Below.refl _ _⟩
  · have hq := fun (w : World) => Lib.run_eql_slice_nil w 47 4 (some ad) n kap 0 0 Try.underlying47
    simp only [Option.isNone] at hq
    have HR := Kept.mk (h.alloc hB (.cells #[] 4))
    have HO := Kept.mk (World.ownsRow_lit (base := w.heap.size) (e := 4) (size := 1) w #[] 0 (Nat.le_refl _) (by unfold maxLen; omega) rfl)
    have HL := Kept.mk h1
    clear h h1 hB
    go_enter Try.func47, Try.ntmps47
    go_wp2_with (at_builtin; refine wpList_append_any _ rfl _ _ _ rfl w.heap.size 4 i0 _ 1 1 Try.underlying47 hi0 hz0 hz1 hz2 rfl (by omega) _ 0 _ rfl HO.out B (some ad) n kap xs rfl HR.out HL.out (by unfold maxLen; omega) (by omega) (by simp) ?_; intro v' w2 ho hg hat)
    go_ret
    refine ⟨v', rfl, by simpa using ho, ((Below.refl _ _).alloc (Nat.le_refl _) _).grown hg (by simp) (fun k hk => ?_)⟩
    exact (HO.out.lt k hk).1

theorem ccell_one (l : List Rq) : ∀ u ∈ l.flatMap ccell, u.oneCell' = true := by
  intro u hu
  obtain ⟨x, _, hx⟩ := List.mem_flatMap.1 hu
  simp [ccell] at hx
  rcases hx with rfl | rfl <;> rfl
theorem boolc_one (l : List Bool) : ∀ u ∈ l.flatMap boolc, u.oneCell' = true := by
  intro u hu
  obtain ⟨x, _, hx⟩ := List.mem_flatMap.1 hu
  simp [boolc] at hx
  subst hx
  rfl
/-- A state that so many rounds lead to. -/
def Rch (N : AN) (f0 : Nat → Option Rat) (k : Nat) (g : Nat → Option Rat) : Prop := ∃ f : Nat → Nat → Option Rat, f 0 = f0 ∧ f k = g ∧ ∀ j, j < k → StepA N (f j) (f (j + 1))
theorem Rch.zero (N : AN) (f0 : Nat → Option Rat) : Rch N f0 0 f0 := ⟨fun _ => f0, rfl, rfl, fun j hj => by omega⟩
theorem Rch.next {N : AN} {f0 g g' : Nat → Option Rat} {k : Nat} (h : Rch N f0 k g) (hs : StepA N g g') : Rch N f0 (k + 1) g' := by
  obtain ⟨f, h1, h2, h3⟩ := h
  refine ⟨fun j => if j ≤ k then f j else g', by simp only [Nat.zero_le, if_true]; exact h1, by simp only [show ¬ k + 1 ≤ k by omega, if_false], fun j hj => ?_⟩
  by_cases e : j = k
  · subst e
    simp only [Nat.le_refl, if_true, show ¬ j + 1 ≤ j by omega, if_false]
    rw [h2]; exact hs
  · simp only [show j ≤ k by omega, if_true, show j + 1 ≤ k by omega]
    exact h3 j (by omega)
/-- Run's memory. -/
structure RU (w W : World) (n : PNet) (t : PSt) : Prop where
  x : Blk W w.heap.size 25 #[.slice n.cA n.caps.length n.ck, .slice n.fA n.flows.length n.fk]
  y : Blk W (w.heap.size + 1) 54 #[.slice t.sA n.caps.length t.sk, .slice t.oA n.caps.length t.ok]
  z : Blk W (w.heap.size + 2) 54 #[.slice none 0 0, .slice none 0 0]
  ow : XOw W (w.heap.size + 3) n.caps.length t
  blw : Below w.heap.size w W
section
variable {w W W' : World} {n : PNet} {t t' : PSt}
theorem RU.new_ (h : RU w W n t) (hb : Below W.heap.size W W') : RU w W' n t := ⟨h.x.new_ hb, h.y.new_ hb, h.z.new_ hb, h.ow.new_ hb, join h.blw hb⟩
theorem XOw.far_ {B nl : Nat} {g : Nat} {ty : TypeId} {cs : Array Value} (h : XOw W B nl t) (hb : Blk W g ty cs) (h1 : (32 : TypeId) ≠ ty) (h2 : (4 : TypeId) ≠ ty) (j : Nat) (u : Value) : XOw (W.setCell ⟨g, j, none⟩ u) B nl t := ⟨own_far h.so (own_blk_ne h.so hb h1) u, own_far h.oo (own_blk_ne h.oo hb h2) u, h.num⟩
theorem RU.put (h : RU w W n t) (ho : XOw W (w.heap.size + 3) n.caps.length t') : RU w ((W.setCell ⟨w.heap.size + 1, 0, none⟩ (.slice t'.sA n.caps.length t'.sk)).setCell ⟨w.heap.size + 1, 1, none⟩ (.slice t'.oA n.caps.length t'.ok)) n t' := by
  refine ⟨(h.x.far (by simp only; omega) _).far (by simp only; omega) _, (h.y.set_ 0 _).to 1 _ rfl, (h.z.far (by simp only; omega) _).far (by simp only; omega) _, ?_, (h.blw.setCell (by simp only; omega) _).setCell (by simp only; omega) _⟩
  exact (ho.far_ h.y (by decide) (by decide) 0 _).far_ (h.y.set_ 0 _) (by decide) (by decide) 1 _
theorem RU.fin (h : RU w W n t) (u v : Value) : ∃ W', W' = (W.setCell ⟨w.heap.size + 2, 0, none⟩ u).setCell ⟨w.heap.size + 2, 1, none⟩ v ∧ W'.cell? ⟨w.heap.size + 2, 0, none⟩ = some u ∧ W'.cell? ⟨w.heap.size + 2, 1, none⟩ = some v ∧ Below w.heap.size w W' ∧ XOw W' w.heap.size n.caps.length t := by
  have hb : Blk ((W.setCell ⟨w.heap.size + 2, 0, none⟩ u).setCell ⟨w.heap.size + 2, 1, none⟩ v) (w.heap.size + 2) 54 #[u, v] := (h.z.set_ 0 u).to 1 v rfl
  exact ⟨_, rfl, hb.cell 0 rfl, hb.cell 1 rfl, (h.blw.setCell (by simp only; omega) _).setCell (by simp only; omega) _, ((h.ow.far_ h.z (by decide) (by decide) 0 _).far_ (h.z.set_ 0 _) (by decide) (by decide) 1 _).base (by omega)⟩
theorem RU.zc (h : RU w W n t) : W.cell? ⟨w.heap.size + 2, 0, none⟩ = some (.slice none 0 0) ∧ W.cell? ⟨w.heap.size + 2, 1, none⟩ = some (.slice none 0 0) ∧ W.frozen? ⟨w.heap.size + 2, 0, none⟩ = false ∧ W.frozen? ⟨w.heap.size + 2, 1, none⟩ = false ∧ w.heap.size + 2 < W.heap.size := ⟨h.z.cell 0 rfl, h.z.cell 1 rfl, h.z.free 0, h.z.free 1, h.z.lt⟩
theorem RU.yc (h : RU w W n t) : W.cell? ⟨w.heap.size + 1, 0, none⟩ = some (.slice t.sA n.caps.length t.sk) ∧ W.cell? ⟨w.heap.size + 1, 1, none⟩ = some (.slice t.oA n.caps.length t.ok) ∧ W.frozen? ⟨w.heap.size + 1, 0, none⟩ = false ∧ W.frozen? ⟨w.heap.size + 1, 1, none⟩ = false ∧ w.heap.size + 1 < W.heap.size := ⟨h.y.cell 0 rfl, h.y.cell 1 rfl, h.y.free 0, h.y.free 1, h.y.lt⟩
theorem RU.xc (h : RU w W n t) : W.cell? ⟨w.heap.size, 0, none⟩ = some (.slice n.cA n.caps.length n.ck) ∧ W.cell? ⟨w.heap.size, 1, none⟩ = some (.slice n.fA n.flows.length n.fk) ∧ w.heap.size < W.heap.size := ⟨h.x.cell 0 rfl, h.x.cell 1 rfl, h.x.lt⟩
end
/-- What Run answers. -/
def RunR (w : World) (n : PNet) (s : PSt) (e : Ending) (w' : World) : Prop := ∃ (t : PSt) (m1 m2 : Nat) (rd er : Int), e = .returned (.tuple #[.agg #[.slice t.sA m1 t.sk, .slice t.oA m2 t.ok], .int .i64 rd, .int .i64 er]) ∧ ((er = 10 ∧ t = ⟨[], none, 0, [], none, 0⟩ ∧ m1 = 0 ∧ m2 = 0) ∨ (er = 0 ∧ m1 = n.caps.length ∧ m2 = n.caps.length ∧ XOw w' w.heap.size n.caps.length t ∧ ∃ (k : Nat) (g : Nat → Option Rat), Rch (anet n) (shO s) k (shO t) ∧ StepA (anet n) (shO t) g ∧ ∀ l, l < n.caps.length → shO t l = g l)) ∧ Below w.heap.size w w'
set_option maxRecDepth 100000 in
set_option maxHeartbeats 16000000 in
theorem run_c (n : PNet) (s : PSt) (most : Nat) (w : World) (hn : NetAt w w.heap.size n) (hv : netOk n = true) (hf5 : n.flows.length ≤ 5) (hs : XAt w w.heap.size n.caps.length s) (hm : most ≤ 1000) (hmx : ∀ g g', Rch (anet n) (shO s) most g → StepA (anet n) g g' → ∀ l, l < n.caps.length → g l = g' l) :
    Calls Try.prog 23 #[nval n, sval s, .int .i64 (most : Int)] w (RunR w n s) := by
  have HN := Kept.mk hn
  have HS := Kept.mk hs
  have HMX := Kept.mk hmx
  have XC := fun w h1 h2 => xvalid_c n s w h1 hv h2
  have HRC := Kept.mk (fun t w h1 h2 => round_c n t w h1 hv hf5 h2)
  have hc32 : n.caps.length ≤ 32 := by
    unfold netOk at hv
    rw [Bool.and_eq_true, decide_eq_true_eq] at hv
    exact hv.1
  have hls := hs.num.ls
  have hlo := hs.num.lo
  clear hn hv hs hmx
  obtain ⟨caps, cA, ck, flows, fA, fk⟩ := n
  obtain ⟨sh, sA, sk, op, oA, ok⟩ := s
  dsimp only at hf5 hls hlo HS hc32
  unfold nval sval at XC ⊢
  unfold nval sval at HRC
  dsimp only at XC HRC ⊢
  rw [hls, hlo] at XC ⊢
  have HLL := Kept.mk (And.intro hls hlo)
  clear hls hlo
  obtain ⟨R, hR⟩ : ∃ R, R = RunR w ⟨caps, cA, ck, flows, fA, fk⟩ ⟨sh, sA, sk, op, oA, ok⟩ := ⟨_, rfl⟩
  rw [← hR]
  have HR := Kept.mk hR
  clear hR
  have HX0 := Kept.mk (R0.start w ⟨caps, cA, ck, flows, fA, fk⟩ ⟨sh, sA, sk, op, oA, ok⟩)
  go_enter Try.func23, Try.ntmps23
  go_upto_region 1 with fail
  obtain ⟨V, hV, HX⟩ : ∃ V, V = ((w.alloc (.cells #[.slice cA caps.length ck, .slice fA flows.length fk] 25)).alloc (.cells #[.slice sA caps.length sk, .slice oA caps.length ok] 54)).alloc (.cells #[.slice none 0 0, .slice none 0 0] 54) ∧ Kept (R0 w V ⟨caps, cA, ck, flows, fA, fk⟩ ⟨sh, sA, sk, op, oA, ok⟩) := ⟨_, rfl, HX0⟩
  rw [← hV]
  clear hV HX0
  have n0 := HX.out.x.cell 0 (v := .slice cA caps.length ck) rfl
  have n1 := HX.out.x.cell 1 (v := .slice fA flows.length fk) rfl
  have nl := HX.out.x.lt
  have s0 := HX.out.y.cell 0 (v := .slice sA caps.length sk) rfl
  have s1 := HX.out.y.cell 1 (v := .slice oA caps.length ok) rfl
  have sl := HX.out.y.lt
  have HN0 := HN.out.new_ HX.out.blw
  have HS0 := HS.out.new_ HX.out.blw
  have dm : decide ((most : Int) < 0) = false := decide_eq_false (by omega)
  go_upto_region 5 with (go_at_call 46; refine (XC _ HN0 HS0).mono ?_; rintro e w1 ⟨rfl, hb1⟩; have HX1 := Kept.mk (HX.out.new_ hb1); clear hb1 n0 n1 nl s0 s1 sl)
  obtain ⟨Z, hZ⟩ : ∃ Z : World, Z = w1 := ⟨_, rfl⟩
  rw [← hZ] at HX1 ⊢
  clear hZ HX HN0 HS0 XC dm
  have HX := HX1
  clear HX1
  have CLR : ∀ W : World, Below w.heap.size w W → Calls Try.prog 10 #[.slice sA caps.length sk] W (Clones W 32 2 caps.length (sh.flatMap ccell)) := fun W hb => by
    have h := (HS.out.rs.below hb).rd
    dsimp only at h
    rw [HLL.out.1] at h
    exact cloneR_c sA caps.length sk _ W w.heap.size h hb.size (ccell_one sh) (by omega)
  have CLB : ∀ W : World, Below w.heap.size w W → Calls Try.prog 47 #[.slice oA caps.length ok] W (Clones W 4 1 caps.length (op.flatMap boolc)) := fun W hb => by
    have h := (HS.out.ro.below hb).rd
    dsimp only at h
    rw [HLL.out.2] at h
    exact cloneB_c oA caps.length ok _ W w.heap.size h hb.size (boolc_one op) (by omega)
  go_cut [] (fun wx => ∃ (A : Option Addr) (k : Nat) (A' : Option Addr) (k' : Nat), Kept (RU w wx ⟨caps, cA, ck, flows, fA, fk⟩ ⟨sh, A, k, op, A', k'⟩))
  case first =>
    refine with_act fun aq haq => ?_
    refine wp_region_inv (fun L az w1z => ∃ (x19 x20 x21 x22 x23 x24 x25 : Value), az = (((((((aq.put (some 19) x19).put (some 20) x20).put (some 21) x21).put (some 22) x22).put (some 23) x23).put (some 24) x24).put (some 25) x25) ∧ (OnlyP (fun b => b = w.heap.size + 1) Z w1z) ∧ (L.getD 0 false = true → x19 = .pointer (some ⟨w.heap.size + 1, 0, none⟩)) ∧ (L.getD 1 false = true → x20 = .slice sA caps.length sk) ∧ (L.getD 2 false = true → ∃ (A : Option Addr) (k : Nat), x21 = .slice A caps.length k ∧ w1z.ownsRow Z.heap.size 32 2 (.slice A caps.length k) caps.length (sh.flatMap ccell)) ∧ (L.getD 3 false = true → x22 = .pointer (some ⟨w.heap.size + 1, 1, none⟩)) ∧ (L.getD 4 false = true → x23 = .slice oA caps.length ok) ∧ (L.getD 5 false = true → ∃ (A : Option Addr) (k : Nat), x24 = .slice A caps.length k ∧ w1z.ownsRow Z.heap.size 4 1 (.slice A caps.length k) caps.length (op.flatMap boolc)) ∧ (L.getD 6 false = true → x25 = .agg #[x21, x24]) ∧ (Blk w1z (w.heap.size + 1) 54 (if L.getD 7 false = true then #[x21, x24] else #[.slice sA caps.length sk, .slice oA caps.length ok])) ∧ (L.getD 7 false = true → L.getD 6 false = true) ∧ (L.getD 6 false = true → ∀ j, j < 6 → L.getD j false = true) ∧ (∀ i j : Nat, L.getD i false = true → (i = 1 ∧ j = 0 ∨ i = 2 ∧ j = 1 ∨ i = 4 ∧ j = 3 ∨ i = 5 ∧ j = 4) → L.getD j false = true)) (by kernel_rfl) (by kernel_rfl) ?start ?oper ?done
    case start =>
      refine ⟨aq.tmps.getD 19 undef, aq.tmps.getD 20 undef, aq.tmps.getD 21 undef, aq.tmps.getD 22 undef, aq.tmps.getD 23 undef, aq.tmps.getD 24 undef, aq.tmps.getD 25 undef, by subst haq; simp only [Act.put, List.setIfInBounds_toArray, List.set_cons_zero, List.set_cons_succ, Array.getD_eq_getD_getElem?, List.getElem?_toArray, List.getElem?_cons_zero, List.getElem?_cons_succ, Option.getD_some], (OnlyP.refl _ Z).drewN 1, none_yet, none_yet, none_yet, none_yet, none_yet, none_yet, none_yet, by rw [show (Array.replicate _ false).getD 7 false = false from rfl]; exact HX.out.y.drewN 1, none_yet, none_yet, fun i j h hh => by rcases hh with ⟨rfl, rfl⟩ | ⟨rfl, rfl⟩ | ⟨rfl, rfl⟩ | ⟨rfl, rfl⟩ <;> exact absurd h (by rw [show (Array.replicate _ false).getD _ false = false from rfl]; decide)⟩
    case oper =>
      intro L az w1z i hI hr
      obtain ⟨x19, x20, x21, x22, x23, x24, x25, rfl, f0, f1, f2, f3, f4, f5, f6, f7, f8, f9, f10, f11⟩ := hI
      subst haq
      have hi : i < 8 := ready_lt hr
      have hcase : i = 0 ∨ i = 1 ∨ i = 2 ∨ i = 3 ∨ i = 4 ∨ i = 5 ∨ i = 6 ∨ i = 7 := by omega
      clear hi
      rcases hcase with rfl | rfl | rfl | rfl | rfl | rfl | rfl | rfl
      · have h7 : L.getD 7 false = false := by
          cases hh : L.getD 7 false with
          | false => rfl
          | true => exact absurd (f10 (f9 hh) 0 (by omega)) (by rw [ready_not hr]; decide)
        have h6 : L.getD 6 false = false := by
          cases hh : L.getD 6 false with
          | false => rfl
          | true => exact absurd (f10 hh 0 (by omega)) (by rw [ready_not hr]; decide)
        rw [h7] at f8
        have y0 := f8.cell 0 (v := .slice sA caps.length sk) rfl
        have y1 := f8.cell 1 (v := .slice oA caps.length ok) rfl
        have yl := f8.lt
        refine inv_op rfl (fun K hK => ?_)
        try simp only [Act.put, List.setIfInBounds_toArray, List.set_cons_zero, List.set_cons_succ]
        go_simp
        refine hK.out _ _ ⟨.pointer (some ⟨w.heap.size + 1, 0, none⟩), x20, x21, x22, x23, x24, x25, (by simp only [Act.put, List.setIfInBounds_toArray, List.set_cons_zero, List.set_cons_succ]), f0, (fun _ => rfl), (fun h => by first | exact f2 (by rwa [set_other (by decide)] at h) | (rw [set_other (by decide)] at h ⊢; exact f2 h)), (fun h => by first | exact f3 (by rwa [set_other (by decide)] at h) | (rw [set_other (by decide)] at h ⊢; exact f3 h)), (fun h => by first | exact f4 (by rwa [set_other (by decide)] at h) | (rw [set_other (by decide)] at h ⊢; exact f4 h)), (fun h => by first | exact f5 (by rwa [set_other (by decide)] at h) | (rw [set_other (by decide)] at h ⊢; exact f5 h)), (fun h => by first | exact f6 (by rwa [set_other (by decide)] at h) | (rw [set_other (by decide)] at h ⊢; exact f6 h)), (fun h => absurd h (by rw [set_other (by decide), h6]; decide)), (by rw [set_other (by decide), h7]; exact f8), (fun h => absurd h (by rw [set_other (by decide), h7]; decide)), (fun h => absurd h (by rw [set_other (by decide), h6]; decide)), (fun i j h hh => by rcases hh with ⟨rfl, rfl⟩ | ⟨rfl, rfl⟩ | ⟨rfl, rfl⟩ | ⟨rfl, rfl⟩ <;> first | (rw [set_other (by decide)] at h ⊢; exact f11 _ _ h (by decide)) | (rw [set_self hr]) | (rw [set_other (by decide)]; exact ready_dep hr (by kernel_rfl)))⟩
      · have h7 : L.getD 7 false = false := by
          cases hh : L.getD 7 false with
          | false => rfl
          | true => exact absurd (f10 (f9 hh) 1 (by omega)) (by rw [ready_not hr]; decide)
        have h6 : L.getD 6 false = false := by
          cases hh : L.getD 6 false with
          | false => rfl
          | true => exact absurd (f10 hh 1 (by omega)) (by rw [ready_not hr]; decide)
        obtain rfl := f1 (ready_dep hr (d := 0) (by kernel_rfl))
        rw [h7] at f8
        have y0 := f8.cell 0 (v := .slice sA caps.length sk) rfl
        have y1 := f8.cell 1 (v := .slice oA caps.length ok) rfl
        have yl := f8.lt
        refine inv_op rfl (fun K hK => ?_)
        try simp only [Act.put, List.setIfInBounds_toArray, List.set_cons_zero, List.set_cons_succ]
        go_simp
        refine hK.out _ _ ⟨(.pointer (some ⟨w.heap.size + 1, 0, none⟩)), .slice sA caps.length sk, x21, x22, x23, x24, x25, (by simp only [Act.put, List.setIfInBounds_toArray, List.set_cons_zero, List.set_cons_succ]), f0, (fun _ => rfl), (fun _ => rfl), (fun h => by first | exact f3 (by rwa [set_other (by decide)] at h) | (rw [set_other (by decide)] at h ⊢; exact f3 h)), (fun h => by first | exact f4 (by rwa [set_other (by decide)] at h) | (rw [set_other (by decide)] at h ⊢; exact f4 h)), (fun h => by first | exact f5 (by rwa [set_other (by decide)] at h) | (rw [set_other (by decide)] at h ⊢; exact f5 h)), (fun h => by first | exact f6 (by rwa [set_other (by decide)] at h) | (rw [set_other (by decide)] at h ⊢; exact f6 h)), (fun h => absurd h (by rw [set_other (by decide), h6]; decide)), (by rw [set_other (by decide), h7]; exact f8), (fun h => absurd h (by rw [set_other (by decide), h7]; decide)), (fun h => absurd h (by rw [set_other (by decide), h6]; decide)), (fun i j h hh => by rcases hh with ⟨rfl, rfl⟩ | ⟨rfl, rfl⟩ | ⟨rfl, rfl⟩ | ⟨rfl, rfl⟩ <;> first | (rw [set_other (by decide)] at h ⊢; exact f11 _ _ h (by decide)) | (rw [set_self hr]) | (rw [set_other (by decide)]; exact ready_dep hr (by kernel_rfl)))⟩
      · have h7 : L.getD 7 false = false := by
          cases hh : L.getD 7 false with
          | false => rfl
          | true => exact absurd (f10 (f9 hh) 2 (by omega)) (by rw [ready_not hr]; decide)
        have h6 : L.getD 6 false = false := by
          cases hh : L.getD 6 false with
          | false => rfl
          | true => exact absurd (f10 hh 2 (by omega)) (by rw [ready_not hr]; decide)
        obtain rfl := f2 (ready_dep hr (d := 1) (by kernel_rfl))
        rw [h7] at f8
        have y0 := f8.cell 0 (v := .slice sA caps.length sk) rfl
        have y1 := f8.cell 1 (v := .slice oA caps.length ok) rfl
        have yl := f8.lt
        have hbw : Below w.heap.size w w1z := joinP HX.out.blw f0 (fun q hq => by omega) (Nat.le_refl _)
        have hsz := f0.size
        refine inv_op rfl (fun K hK => ?_)
        try simp only [Act.put, List.setIfInBounds_toArray, List.set_cons_zero, List.set_cons_succ]
        go_simp
        refine (CLR _ hbw).mono ?_
        rintro e w9 ⟨v9, rfl, ho9, hb9⟩
        obtain ⟨A9, k9, rfl⟩ := own_slice ho9
        try simp only []
        refine hK.out _ _ ⟨x19, (.slice sA caps.length sk), .slice A9 caps.length k9, x22, x23, x24, x25, (by simp only [Act.put, List.setIfInBounds_toArray, List.set_cons_zero, List.set_cons_succ]), f0.new hb9, (fun h => by first | exact f1 (by rwa [set_other (by decide)] at h) | (rw [set_other (by decide)] at h ⊢; exact f1 h)), (fun _ => rfl), (fun _ => ⟨A9, k9, rfl, own_base ho9 hsz⟩), (fun h => by first | exact f4 (by rwa [set_other (by decide)] at h) | (rw [set_other (by decide)] at h ⊢; exact f4 h)), (fun h => by first | exact f5 (by rwa [set_other (by decide)] at h) | (rw [set_other (by decide)] at h ⊢; exact f5 h)), (fun h => by rw [set_other (by decide)] at h; obtain ⟨A, k, e, ho⟩ := f6 h; exact ⟨A, k, e, own_new ho hb9⟩), (fun h => absurd h (by rw [set_other (by decide), h6]; decide)), (by rw [set_other (by decide), h7]; exact f8.new_ hb9), (fun h => absurd h (by rw [set_other (by decide), h7]; decide)), (fun h => absurd h (by rw [set_other (by decide), h6]; decide)), (fun i j h hh => by rcases hh with ⟨rfl, rfl⟩ | ⟨rfl, rfl⟩ | ⟨rfl, rfl⟩ | ⟨rfl, rfl⟩ <;> first | (rw [set_other (by decide)] at h ⊢; exact f11 _ _ h (by decide)) | (rw [set_self hr]) | (rw [set_other (by decide)]; exact ready_dep hr (by kernel_rfl)))⟩
      · have h7 : L.getD 7 false = false := by
          cases hh : L.getD 7 false with
          | false => rfl
          | true => exact absurd (f10 (f9 hh) 3 (by omega)) (by rw [ready_not hr]; decide)
        have h6 : L.getD 6 false = false := by
          cases hh : L.getD 6 false with
          | false => rfl
          | true => exact absurd (f10 hh 3 (by omega)) (by rw [ready_not hr]; decide)
        rw [h7] at f8
        have y0 := f8.cell 0 (v := .slice sA caps.length sk) rfl
        have y1 := f8.cell 1 (v := .slice oA caps.length ok) rfl
        have yl := f8.lt
        refine inv_op rfl (fun K hK => ?_)
        try simp only [Act.put, List.setIfInBounds_toArray, List.set_cons_zero, List.set_cons_succ]
        go_simp
        refine hK.out _ _ ⟨x19, x20, x21, .pointer (some ⟨w.heap.size + 1, 1, none⟩), x23, x24, x25, (by simp only [Act.put, List.setIfInBounds_toArray, List.set_cons_zero, List.set_cons_succ]), f0, (fun h => by first | exact f1 (by rwa [set_other (by decide)] at h) | (rw [set_other (by decide)] at h ⊢; exact f1 h)), (fun h => by first | exact f2 (by rwa [set_other (by decide)] at h) | (rw [set_other (by decide)] at h ⊢; exact f2 h)), (fun h => by first | exact f3 (by rwa [set_other (by decide)] at h) | (rw [set_other (by decide)] at h ⊢; exact f3 h)), (fun _ => rfl), (fun h => by first | exact f5 (by rwa [set_other (by decide)] at h) | (rw [set_other (by decide)] at h ⊢; exact f5 h)), (fun h => by first | exact f6 (by rwa [set_other (by decide)] at h) | (rw [set_other (by decide)] at h ⊢; exact f6 h)), (fun h => absurd h (by rw [set_other (by decide), h6]; decide)), (by rw [set_other (by decide), h7]; exact f8), (fun h => absurd h (by rw [set_other (by decide), h7]; decide)), (fun h => absurd h (by rw [set_other (by decide), h6]; decide)), (fun i j h hh => by rcases hh with ⟨rfl, rfl⟩ | ⟨rfl, rfl⟩ | ⟨rfl, rfl⟩ | ⟨rfl, rfl⟩ <;> first | (rw [set_other (by decide)] at h ⊢; exact f11 _ _ h (by decide)) | (rw [set_self hr]) | (rw [set_other (by decide)]; exact ready_dep hr (by kernel_rfl)))⟩
      · have h7 : L.getD 7 false = false := by
          cases hh : L.getD 7 false with
          | false => rfl
          | true => exact absurd (f10 (f9 hh) 4 (by omega)) (by rw [ready_not hr]; decide)
        have h6 : L.getD 6 false = false := by
          cases hh : L.getD 6 false with
          | false => rfl
          | true => exact absurd (f10 hh 4 (by omega)) (by rw [ready_not hr]; decide)
        obtain rfl := f4 (ready_dep hr (d := 3) (by kernel_rfl))
        rw [h7] at f8
        have y0 := f8.cell 0 (v := .slice sA caps.length sk) rfl
        have y1 := f8.cell 1 (v := .slice oA caps.length ok) rfl
        have yl := f8.lt
        refine inv_op rfl (fun K hK => ?_)
        try simp only [Act.put, List.setIfInBounds_toArray, List.set_cons_zero, List.set_cons_succ]
        go_simp
        refine hK.out _ _ ⟨x19, x20, x21, (.pointer (some ⟨w.heap.size + 1, 1, none⟩)), .slice oA caps.length ok, x24, x25, (by simp only [Act.put, List.setIfInBounds_toArray, List.set_cons_zero, List.set_cons_succ]), f0, (fun h => by first | exact f1 (by rwa [set_other (by decide)] at h) | (rw [set_other (by decide)] at h ⊢; exact f1 h)), (fun h => by first | exact f2 (by rwa [set_other (by decide)] at h) | (rw [set_other (by decide)] at h ⊢; exact f2 h)), (fun h => by first | exact f3 (by rwa [set_other (by decide)] at h) | (rw [set_other (by decide)] at h ⊢; exact f3 h)), (fun _ => rfl), (fun _ => rfl), (fun h => by first | exact f6 (by rwa [set_other (by decide)] at h) | (rw [set_other (by decide)] at h ⊢; exact f6 h)), (fun h => absurd h (by rw [set_other (by decide), h6]; decide)), (by rw [set_other (by decide), h7]; exact f8), (fun h => absurd h (by rw [set_other (by decide), h7]; decide)), (fun h => absurd h (by rw [set_other (by decide), h6]; decide)), (fun i j h hh => by rcases hh with ⟨rfl, rfl⟩ | ⟨rfl, rfl⟩ | ⟨rfl, rfl⟩ | ⟨rfl, rfl⟩ <;> first | (rw [set_other (by decide)] at h ⊢; exact f11 _ _ h (by decide)) | (rw [set_self hr]) | (rw [set_other (by decide)]; exact ready_dep hr (by kernel_rfl)))⟩
      · have h7 : L.getD 7 false = false := by
          cases hh : L.getD 7 false with
          | false => rfl
          | true => exact absurd (f10 (f9 hh) 5 (by omega)) (by rw [ready_not hr]; decide)
        have h6 : L.getD 6 false = false := by
          cases hh : L.getD 6 false with
          | false => rfl
          | true => exact absurd (f10 hh 5 (by omega)) (by rw [ready_not hr]; decide)
        obtain rfl := f5 (ready_dep hr (d := 4) (by kernel_rfl))
        rw [h7] at f8
        have y0 := f8.cell 0 (v := .slice sA caps.length sk) rfl
        have y1 := f8.cell 1 (v := .slice oA caps.length ok) rfl
        have yl := f8.lt
        have hbw : Below w.heap.size w w1z := joinP HX.out.blw f0 (fun q hq => by omega) (Nat.le_refl _)
        have hsz := f0.size
        refine inv_op rfl (fun K hK => ?_)
        try simp only [Act.put, List.setIfInBounds_toArray, List.set_cons_zero, List.set_cons_succ]
        go_simp
        refine (CLB _ hbw).mono ?_
        rintro e w9 ⟨v9, rfl, ho9, hb9⟩
        obtain ⟨A9, k9, rfl⟩ := own_slice ho9
        try simp only []
        refine hK.out _ _ ⟨x19, x20, x21, x22, (.slice oA caps.length ok), .slice A9 caps.length k9, x25, (by simp only [Act.put, List.setIfInBounds_toArray, List.set_cons_zero, List.set_cons_succ]), f0.new hb9, (fun h => by first | exact f1 (by rwa [set_other (by decide)] at h) | (rw [set_other (by decide)] at h ⊢; exact f1 h)), (fun h => by first | exact f2 (by rwa [set_other (by decide)] at h) | (rw [set_other (by decide)] at h ⊢; exact f2 h)), (fun h => by rw [set_other (by decide)] at h; obtain ⟨A, k, e, ho⟩ := f3 h; exact ⟨A, k, e, own_new ho hb9⟩), (fun h => by first | exact f4 (by rwa [set_other (by decide)] at h) | (rw [set_other (by decide)] at h ⊢; exact f4 h)), (fun _ => rfl), (fun _ => ⟨A9, k9, rfl, own_base ho9 hsz⟩), (fun h => absurd h (by rw [set_other (by decide), h6]; decide)), (by rw [set_other (by decide), h7]; exact f8.new_ hb9), (fun h => absurd h (by rw [set_other (by decide), h7]; decide)), (fun h => absurd h (by rw [set_other (by decide), h6]; decide)), (fun i j h hh => by rcases hh with ⟨rfl, rfl⟩ | ⟨rfl, rfl⟩ | ⟨rfl, rfl⟩ | ⟨rfl, rfl⟩ <;> first | (rw [set_other (by decide)] at h ⊢; exact f11 _ _ h (by decide)) | (rw [set_self hr]) | (rw [set_other (by decide)]; exact ready_dep hr (by kernel_rfl)))⟩
      · have h7 : L.getD 7 false = false := by
          cases hh : L.getD 7 false with
          | false => rfl
          | true => exact absurd (f9 hh) (by rw [ready_not hr]; decide)
        have d2 := ready_dep hr (d := 2) (by kernel_rfl)
        have d5 := ready_dep hr (d := 5) (by kernel_rfl)
        have d1 : L.getD 1 false = true := f11 2 1 d2 (by decide)
        have d0 : L.getD 0 false = true := f11 1 0 d1 (by decide)
        have d4 : L.getD 4 false = true := f11 5 4 d5 (by decide)
        have d3 : L.getD 3 false = true := f11 4 3 d4 (by decide)
        obtain ⟨A3, k3, e3, ho3⟩ := f3 d2
        obtain ⟨A6, k6, e6, ho6⟩ := f6 d5
        subst e3 e6
        obtain rfl := f1 d0
        obtain rfl := f2 d1
        obtain rfl := f4 d3
        obtain rfl := f5 d4
        rw [h7] at f8
        refine inv_op rfl (fun K hK => ?_)
        try simp only [Act.put, List.setIfInBounds_toArray, List.set_cons_zero, List.set_cons_succ]
        go_simp
        refine hK.out _ _ ⟨(.pointer (some ⟨w.heap.size + 1, 0, none⟩)), (.slice sA caps.length sk), (.slice A3 caps.length k3), (.pointer (some ⟨w.heap.size + 1, 1, none⟩)), (.slice oA caps.length ok), (.slice A6 caps.length k6), .agg #[.slice A3 caps.length k3, .slice A6 caps.length k6], (by simp only [Act.put, List.setIfInBounds_toArray, List.set_cons_zero, List.set_cons_succ]), f0, (fun _ => rfl), (fun _ => rfl), (fun _ => ⟨A3, k3, rfl, ho3⟩), (fun _ => rfl), (fun _ => rfl), (fun _ => ⟨A6, k6, rfl, ho6⟩), (fun _ => rfl), (by rw [set_other (by decide), h7]; exact f8), (fun h => absurd h (by rw [set_other (by decide), h7]; decide)), (fun _ j hj => by rcases (by omega : j = 0 ∨ j = 1 ∨ j = 2 ∨ j = 3 ∨ j = 4 ∨ j = 5) with rfl | rfl | rfl | rfl | rfl | rfl <;> (rw [set_other (by decide)]; first | exact d0 | exact d1 | exact d2 | exact d3 | exact d4 | exact d5)), (fun i j h hh => by rcases hh with ⟨rfl, rfl⟩ | ⟨rfl, rfl⟩ | ⟨rfl, rfl⟩ | ⟨rfl, rfl⟩ <;> first | (rw [set_other (by decide)] at h ⊢; exact f11 _ _ h (by decide)) | (rw [set_self hr]) | (rw [set_other (by decide)]; exact ready_dep hr (by kernel_rfl)))⟩
      · have h7 := ready_not hr
        have d6 := ready_dep hr (d := 6) (by kernel_rfl)
        have d2 := f10 d6 2 (by omega)
        have d5 := f10 d6 5 (by omega)
        obtain rfl := f1 (f10 d6 0 (by omega))
        obtain rfl := f2 (f10 d6 1 (by omega))
        obtain rfl := f4 (f10 d6 3 (by omega))
        obtain rfl := f5 (f10 d6 4 (by omega))
        obtain ⟨A3, k3, e3, ho3⟩ := f3 d2
        obtain ⟨A6, k6, e6, ho6⟩ := f6 d5
        have e7 := f7 d6
        subst e3 e6
        subst e7
        rw [h7] at f8
        have y0 := f8.cell 0 (v := .slice sA caps.length sk) rfl
        have y1 := f8.cell 1 (v := .slice oA caps.length ok) rfl
        have yl := f8.lt
        have p0 := f8.free 0
        have p1 := f8.free 1
        have n3 := own_blk_ne ho3 f8 (by decide)
        have n6 := own_blk_ne ho6 f8 (by decide)
        refine inv_op rfl (fun K hK => ?_)
        try simp only [Act.put, List.setIfInBounds_toArray, List.set_cons_zero, List.set_cons_succ]
        go_simp
        refine hK.out _ _ ⟨(.pointer (some ⟨w.heap.size + 1, 0, none⟩)), (.slice sA caps.length sk), (.slice A3 caps.length k3), (.pointer (some ⟨w.heap.size + 1, 1, none⟩)), (.slice oA caps.length ok), (.slice A6 caps.length k6), (.agg #[.slice A3 caps.length k3, .slice A6 caps.length k6]), (by simp only [Act.put, List.setIfInBounds_toArray, List.set_cons_zero, List.set_cons_succ]), ((f0.set (p := ⟨w.heap.size + 1, 0, none⟩) (.inl rfl) _).set (p := ⟨w.heap.size + 1, 1, none⟩) (.inl rfl) _), (fun _ => rfl), (fun _ => rfl), (fun _ => ⟨A3, k3, rfl, own_far (own_far ho3 n3 _) n3 _⟩), (fun _ => rfl), (fun _ => rfl), (fun _ => ⟨A6, k6, rfl, own_far (own_far ho6 n6 _) n6 _⟩), (fun _ => rfl), (by rw [set_self hr]; exact (f8.set_ 0 _).to 1 _ rfl), (fun _ => by rw [set_other (by decide)]; exact d6), (fun _ j hj => by rw [set_other (by omega)]; exact f10 d6 j hj), (fun i j h hh => by rcases hh with ⟨rfl, rfl⟩ | ⟨rfl, rfl⟩ | ⟨rfl, rfl⟩ | ⟨rfl, rfl⟩ <;> first | (rw [set_other (by decide)] at h ⊢; exact f11 _ _ h (by decide)) | (rw [set_self hr]) | (rw [set_other (by decide)]; exact ready_dep hr (by kernel_rfl)))⟩
    case done =>
      intro L az w1z hI hall
      obtain ⟨x19, x20, x21, x22, x23, x24, x25, rfl, f0, f1, f2, f3, f4, f5, f6, f7, f8, f9, f10, f11⟩ := hI
      subst haq
      simp only [Act.put, List.setIfInBounds_toArray, List.set_cons_zero, List.set_cons_succ]
      go_wp2_with fail
      go_meet
      obtain ⟨A3, k3, e3, ho3⟩ := f3 (hall 2 (by decide))
      obtain ⟨A6, k6, e6, ho6⟩ := f6 (hall 5 (by decide))
      rw [hall 7 (by decide), e3, e6] at f8
      have f8x : Blk w1z (w.heap.size + 1) 54 #[.slice A3 caps.length k3, .slice A6 caps.length k6] := f8
      have hzl := HX.out.z.lt
      exact ⟨A3, k3, A6, k6, ⟨HX.out.x.only f0 (by omega), f8x, HX.out.z.only f0 (by omega), ⟨by dsimp only; rw [HLL.out.1]; exact own_base ho3 (by omega), by dsimp only; rw [HLL.out.2]; exact own_base ho6 (by omega), ⟨HS.out.num.ls, HS.out.num.lo, HS.out.num.ok, HS.out.num.nn⟩⟩, joinP HX.out.blw f0 (fun q hq => by omega) (Nat.le_refl _)⟩⟩
  case rest =>
    obtain ⟨A0, ka0, A0', kb0, HV⟩ := hcut
    clear HX CLR CLB
    have HR0 : Kept (Rch (anet ⟨caps, cA, ck, flows, fA, fk⟩) (shO ⟨sh, sA, sk, op, oA, ok⟩) 0 (shO ⟨sh, A0, ka0, op, A0', kb0⟩)) := ⟨Rch.zero _ _⟩
    go_wp2_with fail
    go_loopw [7] (fun v7 wr => ∃ (k : Nat) (t : PSt), k ≤ most ∧ v7 = .int .i64 k ∧ Kept (Rch (anet ⟨caps, cA, ck, flows, fA, fk⟩) (shO ⟨sh, sA, sk, op, oA, ok⟩) k (shO t)) ∧ Kept (RU w wr ⟨caps, cA, ck, flows, fA, fk⟩ t)) (fun v7 _ => most + 1 - (intOf v7).toNat)
    case atStart => exact ⟨0, ⟨sh, A0, ka0, op, A0', kb0⟩, Nat.zero_le _, rfl, HR0, HV⟩
    case round =>
      clear HV HR0
      obtain ⟨k, t, hk, rfl, HP, HX⟩ := hrel
      obtain ⟨tsh, tsA, tsk, top, toA, tok⟩ := t
      have RC := HRC.out ⟨tsh, tsA, tsk, top, toA, tok⟩ wr (HN.out.new_ HX.out.blw) HX.out.ow.at
      dsimp only at RC
      have e1 : tsh.length = caps.length := HX.out.ow.num.ls
      have e2 : top.length = caps.length := HX.out.ow.num.lo
      rw [e1, e2] at RC
      clear e1 e2
      obtain ⟨n0, n1, nl⟩ := HX.out.xc
      obtain ⟨y0, y1, yf0, yf1, yl⟩ := HX.out.yc
      dsimp only at n0 n1 y0 y1
      go_upto_region 9 with (go_at_call 48; refine RC.mono ?_; intro e w3 hrd; obtain ⟨u, m1, m2, er, rfl, hcase, hb3⟩ := hrd; have HCS := Kept.mk hcase; have HX3 := Kept.mk (HX.out.new_ hb3); have HSZ := Kept.mk (And.intro HX.out.z.lt hb3.size); clear hcase hb3 n0 n1 nl y0 y1 yf0 yf1 yl)
      obtain ⟨ush, usA, usk, uop, uoA, uok⟩ := u
      obtain ⟨b9, hb9⟩ : ∃ b, b = w3.heap.size := ⟨_, rfl⟩
      dsimp only
      obtain ⟨U, hU, HU⟩ : ∃ U, U = w3.alloc (.cells #[.slice usA m1 usk, .slice uoA m2 uok] 54) ∧ Kept (RU w U ⟨caps, cA, ck, flows, fA, fk⟩ ⟨tsh, tsA, tsk, top, toA, tok⟩ ∧ Blk U b9 54 #[.slice usA m1 usk, .slice uoA m2 uok]) := ⟨_, rfl, ⟨HX3.out.new_ ((Below.refl _ _).alloc (Nat.le_refl _) _), by rw [hb9]; exact Blk.new _ _ _⟩⟩
      rcases HCS.out with he | ⟨he, hm1, hm2, how, hlk⟩
      · subst he
        rw [← hU, ← hb9]
        clear hU hb9 HX HX3 RC
        obtain ⟨z0, z1, zf0, zf1, zl⟩ := HU.out.1.zc
        go_wp2_with fail
        obtain ⟨W9, hW9, s0, s1, hb, -⟩ := HU.out.1.fin (.slice none 0 0) (.slice none 0 0)
        rw [← hW9]
        clear hW9
        rw [HR.out]
        exact bodyPost_ret (v := .tuple #[.agg #[.slice none 0 0, .slice none 0 0], .int .i64 0, .int .i64 10]) (by simp [results, Try.results23, go_sem, s0, s1]) rfl ⟨⟨[], none, 0, [], none, 0⟩, 0, 0, 0, 10, rfl, Or.inl ⟨rfl, rfl, rfl, rfl⟩, hb⟩
      · try dsimp only at hm1 hm2
        subst he hm1 hm2
        have HOW : Kept (XOw U (w.heap.size + 3) caps.length ⟨ush, usA, usk, uop, uoA, uok⟩) := ⟨by
          rw [hU]
          refine XOw.base (B := wr.heap.size) (how.new_ ((Below.refl _ _).alloc (Nat.le_refl _) _)) ?_
          have := HSZ.out
          omega⟩
        have HLK : Kept (StepA (anet ⟨caps, cA, ck, flows, fA, fk⟩) (shO ⟨tsh, tsA, tsk, top, toA, tok⟩) (shO ⟨ush, usA, usk, uop, uoA, uok⟩)) := ⟨fun l hl => hlk l hl⟩
        rw [← hU, ← hb9]
        clear hU hb9 HX HX3 RC how hlk
        have SM := same_c ⟨tsh, tsA, tsk, top, toA, tok⟩ ⟨ush, usA, usk, uop, uoA, uok⟩ caps.length U HU.out.1.ow.at HOW.out.at hc32
        dsimp only at SM
        have hsi := same_iff HU.out.1.ow.num HOW.out.num
        dsimp only at hsi
        obtain ⟨y0, y1, yf0, yf1, yl⟩ := HU.out.1.yc
        dsimp only at y0 y1
        have q0 := HU.out.2.cell 0 (v := .slice usA caps.length usk) rfl
        have q1 := HU.out.2.cell 1 (v := .slice uoA caps.length uok) rfl
        have ql := HU.out.2.lt
        cases hsb : sameB caps.length ⟨tsh, tsA, tsk, top, toA, tok⟩ ⟨ush, usA, usk, uop, uoA, uok⟩ with
        | true =>
          rw [hsb] at SM hsi
          have HSI := Kept.mk (hsi.1 rfl)
          clear hsi hsb
          go_upto_region 12 with (go_at_call 49; refine SM.mono ?_; rintro e w4 ⟨rfl, hb4⟩; have HU4 := Kept.mk (HU.out.1.new_ hb4); clear hb4 y0 y1 yf0 yf1 yl q0 q1 ql)
          obtain ⟨y0, y1, yf0, yf1, yl⟩ := HU4.out.yc
          obtain ⟨z0, z1, zf0, zf1, zl⟩ := HU4.out.zc
          dsimp only at y0 y1
          go_wp2_with fail
          obtain ⟨W9, hW9, s0, s1, hb, hox⟩ := HU4.out.fin (.slice tsA caps.length tsk) (.slice toA caps.length tok)
          rw [← hW9]
          clear hW9
          rw [HR.out]
          exact bodyPost_ret (v := .tuple #[.agg #[.slice tsA caps.length tsk, .slice toA caps.length tok], .int .i64 k, .int .i64 0]) (by simp [results, Try.results23, go_sem, s0, s1]) rfl ⟨⟨tsh, tsA, tsk, top, toA, tok⟩, caps.length, caps.length, k, 0, rfl, Or.inr ⟨rfl, rfl, rfl, hox, k, _, HP.out, HLK.out, HSI.out⟩, hb⟩
        | false =>
          have hkm : k ≠ most := by
            intro e
            subst e
            have := hsi.2 (HMX.out _ _ HP.out HLK.out)
            rw [hsb] at this
            cases this
          rw [hsb] at SM
          have hkb : ((k : Int) == (most : Int)) = false := beq_false_of_ne (by omega)
          have hkb2 : (k == most) = false := beq_false_of_ne hkm
          have hw1 : IntKind.i64.wrap ((k : Int) + 1) = ((k + 1 : Nat) : Int) := IntWalk.i64_in _ (by omega)
          clear hsi hsb
          go_upto_region 13 with (go_at_call 49; refine SM.mono ?_; rintro e w4 ⟨rfl, hb4⟩; have HU4 : Kept (RU w w4 ⟨caps, cA, ck, flows, fA, fk⟩ ⟨tsh, tsA, tsk, top, toA, tok⟩ ∧ Blk w4 b9 54 #[.slice usA caps.length usk, .slice uoA caps.length uok] ∧ XOw w4 (w.heap.size + 3) caps.length ⟨ush, usA, usk, uop, uoA, uok⟩) := ⟨HU.out.1.new_ hb4, HU.out.2.new_ hb4, HOW.out.new_ hb4⟩; clear hb4 y0 y1 yf0 yf1 yl q0 q1 ql)
          obtain ⟨y0, y1, yf0, yf1, yl⟩ := HU4.out.1.yc
          have q0 := HU4.out.2.1.cell 0 (v := .slice usA caps.length usk) rfl
          have q1 := HU4.out.2.1.cell 1 (v := .slice uoA caps.length uok) rfl
          have ql := HU4.out.2.1.lt
          dsimp only at y0 y1
          have HP2 := Kept.mk (HP.out.next HLK.out)
          go_wp2_with fail
          go_roundw
          case rel => exact ⟨k + 1, ⟨ush, usA, usk, uop, uoA, uok⟩, by omega, by go_num, HP2, ⟨HU4.out.1.put HU4.out.2.2⟩⟩
          case measure => simp [intOf]; omega
end Go.Proofs.Ytjalegdfofogcaa
namespace Go.Proofs.Ytjalegdfofogcaa
set_option linter.unusedVariables false
set_option linter.unusedSimpArgs false
open Go.RowKit
def xrL (n : PNet) (s : PSt) (k : Nat) : List Rq := (List.range k).map fun i => (lsF n s i (-1)).1
theorem xrL_len (n : PNet) (s : PSt) (k : Nat) : (xrL n s k).length = k := by simp [xrL]
theorem xrL_next (n : PNet) (s : PSt) (k : Nat) : xrL n s (k + 1) = xrL n s k ++ [(lsF n s k (-1)).1] := by unfold xrL; rw [List.range_succ, List.map_append]; rfl
/-- Rates' memory. -/
structure XR (w W : World) (n : PNet) (s : PSt) (v : Value) (L : List Rq) : Prop where
  x : Blk W w.heap.size 25 #[.slice n.cA n.caps.length n.ck, .slice n.fA n.flows.length n.fk]
  y : Blk W (w.heap.size + 1) 54 #[.slice s.sA n.caps.length s.sk, .slice s.oA n.caps.length s.ok]
  own : W.ownsRow (w.heap.size + 2) 32 2 v L.length (L.flatMap ccell)
  blw : Below w.heap.size w W
section
variable {w W W' : World} {n : PNet} {s : PSt} {v v' : Value} {L : List Rq}
theorem XR.new_ (h : XR w W n s v L) (hb : Below W.heap.size W W') : XR w W' n s v L := ⟨h.x.new_ hb, h.y.new_ hb, own_new h.own hb, join h.blw hb⟩
theorem XR.grow {x : Rq} (h : XR w W n s v L) (ho : W'.ownsRow (w.heap.size + 2) 32 2 v' (L.length + 1) (L.flatMap ccell ++ ccell x)) (hg : W.grownBy W' v.ownBlock) : XR w W' n s v' (L ++ [x]) := by
  have hl := h.y.lt
  have hne : ∀ q, q < w.heap.size + 2 → some q ≠ v.ownBlock := fun q hq e => by have := (h.own.lt q e.symm).1; omega
  exact ⟨h.x.grown hg (hne _ (by omega)), h.y.grown hg (hne _ (by omega)), by rw [List.length_append, List.flatMap_append]; simpa using ho, h.blw.grown hg (by omega) (fun q e => by have := (h.own.lt q e).1; omega)⟩
end
set_option maxRecDepth 100000 in
set_option maxHeartbeats 16000000 in
theorem xrates_c (n : PNet) (s : PSt) (w : World) (hn : NetAt w w.heap.size n) (hv : netOk n = true) (hf5 : n.flows.length ≤ 5) (hs : XAt w w.heap.size n.caps.length s) (hfo : ∀ i, i < n.flows.length → (lsF n s i (-1)).2 = true) :
    Calls Try.prog 25 #[nval n, .agg #[.slice s.sA n.caps.length s.sk, .slice s.oA n.caps.length s.ok]] w fun e w' => ∃ (A : Option Addr) (kap : Nat), e = .returned (.tuple #[.slice A n.flows.length kap, .int .i64 0]) ∧ RowsAt w' w'.heap.size 2 ccell A (xrL n s n.flows.length) ∧ Below w.heap.size w w' := by
  have HN := Kept.mk hn
  have HS := Kept.mk hs
  have HFO := Kept.mk hfo
  have XC := fun w h1 h2 => xvalid_c n s w h1 hv h2
  have HLC := Kept.mk (fun i (hi : i < n.flows.length) w h1 h2 => least_c n s i (-1) w h1 hv h2 hi)
  have hls := hs.num.ls
  have hlo := hs.num.lo
  clear hn hv hs hfo
  obtain ⟨caps, cA, ck, flows, fA, fk⟩ := n
  obtain ⟨sh, sA, sk, op, oA, ok⟩ := s
  dsimp only at hf5 hls hlo HS HFO
  unfold nval sval at XC
  unfold nval sval rqv at HLC
  unfold nval
  dsimp only at XC HLC ⊢
  rw [hls, hlo] at XC HLC
  clear hls hlo
  obtain ⟨U, hU, HX⟩ : ∃ U, U = (w.alloc (.cells #[.slice cA caps.length ck, .slice fA flows.length fk] 25)).alloc (.cells #[.slice sA caps.length sk, .slice oA caps.length ok] 54) ∧ Kept (XR w U ⟨caps, cA, ck, flows, fA, fk⟩ ⟨sh, sA, sk, op, oA, ok⟩ (.slice none 0 0) (xrL ⟨caps, cA, ck, flows, fA, fk⟩ ⟨sh, sA, sk, op, oA, ok⟩ 0)) := by
    have h1 := Blk.new (w.alloc (.cells #[.slice cA caps.length ck, .slice fA flows.length fk] 25)) 54 #[.slice sA caps.length sk, .slice oA caps.length ok]
    rw [World.size_alloc] at h1
    exact ⟨_, rfl, ⟨⟨(Blk.new _ _ _).alloc _, h1, World.ownsRow_nil _ _ _ _, by go_grown⟩⟩⟩
  have HN0 := HN.out.new_ HX.out.blw
  have HS0 := HS.out.new_ HX.out.blw
  go_enter Try.func25, Try.ntmps25
  go_upto_region 1 with fail
  rw [← hU]
  clear hU
  have n0 := HX.out.x.cell 0 (v := .slice cA caps.length ck) rfl
  have n1 := HX.out.x.cell 1 (v := .slice fA flows.length fk) rfl
  have nl := HX.out.x.lt
  have s0 := HX.out.y.cell 0 (v := .slice sA caps.length sk) rfl
  have s1 := HX.out.y.cell 1 (v := .slice oA caps.length ok) rfl
  have sl := HX.out.y.lt
  go_upto_region 3 with (go_at_call 46; refine (XC _ HN0 HS0).mono ?_; rintro e w1 ⟨rfl, hb1⟩; have HX1 := Kept.mk (HX.out.new_ hb1); clear hb1 n0 n1 nl s0 s1 sl)
  clear HX HN0 HS0 XC
  have n1 := HX1.out.x.cell 1 (v := .slice fA flows.length fk) rfl
  have nl := HX1.out.x.lt
  go_wp2_with fail
  go_loopw [6, 17] (fun v6 v wr => ∃ k : Nat, k ≤ flows.length ∧ v = .int .i64 k ∧ Kept (XR w wr ⟨caps, cA, ck, flows, fA, fk⟩ ⟨sh, sA, sk, op, oA, ok⟩ v6 (xrL ⟨caps, cA, ck, flows, fA, fk⟩ ⟨sh, sA, sk, op, oA, ok⟩ k))) (fun _ v _ => flows.length - (intOf v).toNat)
  case atStart => exact ⟨0, Nat.zero_le _, rfl, HX1⟩
  case round =>
    clear HX1 n1 nl
    obtain ⟨k, hk, rfl, HX⟩ := hrel
    by_cases hlt : k < flows.length
    · have LK := HLC.out k hlt wr (HN.out.new_ HX.out.blw) (HS.out.new_ HX.out.blw)
      have hf := HFO.out k hlt
      have HNX := Kept.mk (xrL_next ⟨caps, cA, ck, flows, fA, fk⟩ ⟨sh, sA, sk, op, oA, ok⟩ k)
      obtain ⟨A, hA⟩ : ∃ a, a = lsF ⟨caps, cA, ck, flows, fA, fk⟩ ⟨sh, sA, sk, op, oA, ok⟩ k (-1) := ⟨_, rfl⟩
      rw [← hA] at LK hf HNX
      obtain ⟨a1, a2⟩ := A
      dsimp only at LK hf HNX
      subst hf
      obtain ⟨L, hL⟩ : ∃ q, q = xrL ⟨caps, cA, ck, flows, fA, fk⟩ ⟨sh, sA, sk, op, oA, ok⟩ k := ⟨_, rfl⟩
      have hLk : L.length = k := by rw [hL]; exact xrL_len _ _ _
      rw [← hL] at HX HNX
      have n0 := HX.out.x.cell 0 (v := .slice cA caps.length ck) rfl
      have n1 := HX.out.x.cell 1 (v := .slice fA flows.length fk) rfl
      have nl := HX.out.x.lt
      have s0 := HX.out.y.cell 0 (v := .slice sA caps.length sk) rfl
      have s1 := HX.out.y.cell 1 (v := .slice oA caps.length ok) rfl
      have sl := HX.out.y.lt
      have HLK := Kept.mk hLk
      clear hA hL hLk
      go_upto_region 8 with (go_at_call 50; refine LK.mono ?_; rintro e w5 ⟨rfl, hb5⟩; have HX5 := Kept.mk (HX.out.new_ hb5); clear hb5 n0 n1 nl s0 s1 sl)
      obtain ⟨b8, hb8⟩ : ∃ b, b = w5.heap.size := ⟨_, rfl⟩
      obtain ⟨U, hU, HU⟩ : ∃ U, U = w5.alloc (.cells #[.int .i64 a1.n, .int .i64 a1.d] 32) ∧ Kept (XR w U ⟨caps, cA, ck, flows, fA, fk⟩ ⟨sh, sA, sk, op, oA, ok⟩ u6 L ∧ Blk U b8 32 #[.int .i64 a1.n, .int .i64 a1.d]) := ⟨_, rfl, ⟨HX5.out.new_ ((Below.refl _ _).alloc (Nat.le_refl _) _), by rw [hb8]; exact Blk.new _ _ _⟩⟩
      rw [← hU, ← hb8]
      clear hU hb8 HX HX5 LK
      obtain ⟨i4, hi4, hz0, hz1, hz2⟩ := info_parts infoR
      have p0 := HU.out.2.cell 0 (v := .int .i64 a1.n) rfl
      have p1 := HU.out.2.cell 1 (v := .int .i64 a1.d) rfl
      have pl := HU.out.2.lt
      have hyl := HU.out.1.y.lt
      have hL5 : L.length ≤ 5 := by have := HLK.out; omega
      have HOA := Kept.mk (HU.out.1.new_ ((Below.refl U.heap.size U).alloc (Nat.le_refl _) (.cells #[.int .i64 a1.n, .int .i64 a1.d] 32)))
      have HRL := Kept.mk (reads_made U #[.int .i64 a1.n, .int .i64 a1.d] 32 2 1 rfl)
      go_wp2_with (at_builtin; refine wpList_append_any _ rfl _ _ _ rfl (w.heap.size + 2) 32 i4 _ 2 16 Try.underlying22 hi4 hz0 hz1 hz2 rfl (by omega) _ L.length _ rfl HOA.out.own _ _ 1 1 _ rfl HRL.out (fun u hu => by simp at hu; rcases hu with rfl | rfl <;> rfl) (by unfold maxLen; omega) (by omega) (by simp only [World.size_alloc]; omega) ?_; intro v' w9 ho hgw hat; have HX9 : Kept (XR w w9 ⟨caps, cA, ck, flows, fA, fk⟩ ⟨sh, sA, sk, op, oA, ok⟩ v' (L ++ [a1])) := ⟨HOA.out.grow ho hgw⟩; clear ho hgw hat)
      go_roundw
      case rel => exact ⟨k + 1, by omega, by go_num, by rw [HNX.out]; exact HX9⟩
      case measure => simp [intOf]; omega
    · obtain rfl : k = flows.length := by omega
      clear hlt
      obtain ⟨A9, k9, rfl⟩ := own_slice HX.out.own
      rw [xrL_len]
      go_wp2_with fail
      go_ret2
      exact ⟨A9, k9, rfl, RowsAt.of_own HX.out.own ccell_len (by omega) rfl, HX.out.blw⟩
set_option maxRecDepth 100000 in
set_option maxHeartbeats 8000000 in
theorem xvalid0_c (n : PNet) (w : World) (hn : NetAt w w.heap.size n) (hv : netOk n = true) (h0 : n.caps.length ≠ 0) : Calls Try.prog 46 #[nval n, .agg #[.slice none 0 0, .slice none 0 0]] w fun e w' => e = .returned (.bool false) ∧ Below w.heap.size w w' := by
  have VN := fun w h => valid_net_c n w h
  rw [hv] at VN
  have HN := Kept.mk hn
  clear hn hv
  obtain ⟨caps, cA, ck, flows, fA, fk⟩ := n
  dsimp only at h0
  unfold nval at VN ⊢
  dsimp only at VN ⊢
  obtain ⟨ncap, hnc⟩ : ∃ q, q = caps.length := ⟨_, rfl⟩
  rw [← hnc] at VN h0 ⊢
  have hne : ((0 : Int) != (ncap : Int)) = true := by simp; omega
  obtain ⟨U, hU, HX⟩ : ∃ U, U = (w.alloc (.cells #[.slice cA ncap ck, .slice fA flows.length fk] 25)).alloc (.cells #[.slice none 0 0, .slice none 0 0] 54) ∧ Kept (Blk U w.heap.size 25 #[.slice cA ncap ck, .slice fA flows.length fk] ∧ Blk U (w.heap.size + 1) 54 #[.slice none 0 0, .slice none 0 0] ∧ Below w.heap.size w U) := by
    have h1 := Blk.new (w.alloc (.cells #[.slice cA ncap ck, .slice fA flows.length fk] 25)) 54 #[.slice none 0 0, .slice none 0 0]
    rw [World.size_alloc] at h1
    exact ⟨_, rfl, ⟨(Blk.new _ _ _).alloc _, h1, by go_grown⟩⟩
  have HN0 := HN.out.new_ HX.out.2.2
  clear hnc h0
  go_enter Try.func46, Try.ntmps46
  go_upto_region 1 with fail
  rw [← hU]
  clear hU
  have n0 := HX.out.1.cell 0 (v := .slice cA ncap ck) rfl
  have n1 := HX.out.1.cell 1 (v := .slice fA flows.length fk) rfl
  have nl := HX.out.1.lt
  go_wp2_with (go_at_call 27; refine (VN _ HN0).mono ?_; rintro e w1 ⟨rfl, hb1⟩; have HX1 : Kept (Blk w1 w.heap.size 25 #[.slice cA ncap ck, .slice fA flows.length fk] ∧ Blk w1 (w.heap.size + 1) 54 #[.slice none 0 0, .slice none 0 0] ∧ Below w.heap.size w w1) := ⟨HX.out.1.new_ hb1, HX.out.2.1.new_ hb1, join HX.out.2.2 hb1⟩; clear hb1 n0 n1 nl; have n0 := HX1.out.1.cell 0 (v := .slice cA ncap ck) rfl; have nl := HX1.out.1.lt; have y0 := HX1.out.2.1.cell 0 (v := .slice none 0 0) rfl; have yl := HX1.out.2.1.lt)
  go_ret
  exact ⟨rfl, HX1.out.2.2⟩
/-- Rates of a state that does not fit: whatever it answers. -/
theorem xrates0_c (n : PNet) (w : World) (hn : NetAt w w.heap.size n) (hv : netOk n = true) : Calls Try.prog 25 #[nval n, .agg #[.slice none 0 0, .slice none 0 0]] w fun e w' => ∃ (A : Option Addr) (l kap : Nat) (g : Int), e = .returned (.tuple #[.slice A l kap, .int .i64 g]) ∧ Below w.heap.size w w' := by
  by_cases h0 : n.caps.length = 0
  · have hf0 : n.flows = [] := by
      cases hfl : n.flows with
      | nil => rfl
      | cons p l =>
        exfalso
        have hp : p ∈ n.flows := by rw [hfl]; simp
        have h1 := netOk_flow hv hp
        unfold flowOk at h1
        rw [Bool.and_eq_true, decide_eq_true_eq] at h1
        obtain ⟨x, hx⟩ := get_some h1.1
        have := (netOk_links hv).rg p hp x (List.mem_of_getElem? hx)
        omega
    have := xrates_c n ⟨[], none, 0, [], none, 0⟩ w hn hv (by rw [hf0]; simp) ⟨RowsAt.nil_ _ _ _ _ ccell_len (by omega), RowsAt.nil_ _ _ _ _ boolc_len (by omega), ⟨by rw [h0]; rfl, by rw [h0]; rfl, (fun r hr => by cases hr), (fun r hr => by cases hr)⟩⟩ (fun i hi => by rw [hf0] at hi; simp at hi)
    rw [h0] at this
    exact this.mono fun e w' ⟨A, kap, h1, _, h2⟩ => ⟨A, _, kap, 0, h1, h2⟩
  · have XC := fun w h1 => xvalid0_c n w h1 hv h0
    have HN := Kept.mk hn
    clear hn hv h0
    obtain ⟨caps, cA, ck, flows, fA, fk⟩ := n
    unfold nval at XC ⊢
    dsimp only at XC ⊢
    obtain ⟨U, hU, HX⟩ : ∃ U, U = (w.alloc (.cells #[.slice cA caps.length ck, .slice fA flows.length fk] 25)).alloc (.cells #[.slice none 0 0, .slice none 0 0] 54) ∧ Kept (Blk U w.heap.size 25 #[.slice cA caps.length ck, .slice fA flows.length fk] ∧ Blk U (w.heap.size + 1) 54 #[.slice none 0 0, .slice none 0 0] ∧ Below w.heap.size w U) := by
      have h1 := Blk.new (w.alloc (.cells #[.slice cA caps.length ck, .slice fA flows.length fk] 25)) 54 #[.slice none 0 0, .slice none 0 0]
      rw [World.size_alloc] at h1
      exact ⟨_, rfl, ⟨(Blk.new _ _ _).alloc _, h1, by go_grown⟩⟩
    have HN0 := HN.out.new_ HX.out.2.2
    go_enter Try.func25, Try.ntmps25
    go_upto_region 1 with fail
    rw [← hU]
    clear hU
    have n0 := HX.out.1.cell 0 (v := .slice cA caps.length ck) rfl
    have n1 := HX.out.1.cell 1 (v := .slice fA flows.length fk) rfl
    have nl := HX.out.1.lt
    have s0 := HX.out.2.1.cell 0 (v := .slice none 0 0) rfl
    have s1 := HX.out.2.1.cell 1 (v := .slice none 0 0) rfl
    have sl := HX.out.2.1.lt
    go_wp2_with (go_at_call 46; refine (XC _ HN0).mono ?_; rintro e w1 ⟨rfl, hb1⟩; have HD1 := Kept.mk (join HX.out.2.2 hb1); clear hb1)
    go_ret2
    exact ⟨none, 0, 0, 1, rfl, HD1.out⟩
set_option maxHeartbeats 4000000 in
theorem bound_c (n : PNet) (w : World) (hn : NetAt w w.heap.size n) (hv : netOk n = true) : Calls Try.prog 24 #[nval n] w fun e w' => e = .returned (.int .i64 ((2 * (n.caps.length + n.flows.length) + 2 : Nat) : Int)) ∧ Below w.heap.size w w' := by
  have VN := fun w h => valid_net_c n w h
  rw [hv] at VN
  have HN := Kept.mk hn
  have hsz : n.caps.length ≤ 32 ∧ n.flows.length ≤ 32 := by
    unfold netOk at hv
    rw [Bool.and_eq_true, Bool.and_eq_true, decide_eq_true_eq, decide_eq_true_eq] at hv
    exact ⟨hv.1, hv.2.1⟩
  obtain ⟨hc32, hf32⟩ := hsz
  clear hn hv
  obtain ⟨caps, cA, ck, flows, fA, fk⟩ := n
  dsimp only at hc32 hf32
  unfold nval at VN ⊢
  dsimp only at VN ⊢
  obtain ⟨ncap, hnc⟩ : ∃ q, q = caps.length := ⟨_, rfl⟩
  obtain ⟨nflo, hnf⟩ : ∃ q, q = flows.length := ⟨_, rfl⟩
  rw [← hnc, ← hnf] at VN ⊢
  rw [← hnc] at hc32
  rw [← hnf] at hf32
  have HX0 := Kept.mk (Blk.new w 25 #[.slice cA ncap ck, .slice fA nflo fk])
  have HD0 : Kept (Below w.heap.size w (w.alloc (.cells #[.slice cA ncap ck, .slice fA nflo fk] 25))) := ⟨by go_grown⟩
  have HN0 := HN.out.new_ HD0.out
  have n0 := HX0.out.cell 0 (v := .slice cA ncap ck) rfl
  have n1 := HX0.out.cell 1 (v := .slice fA nflo fk) rfl
  have hw1 : IntKind.i64.wrap ((ncap : Int) + (nflo : Int)) = ((ncap + nflo : Nat) : Int) := by rw [IntWalk.i64_in _ (by omega)]; omega
  have hw2 : IntKind.i64.wrap (2 * ((ncap + nflo : Nat) : Int)) = ((2 * (ncap + nflo) : Nat) : Int) := by rw [IntWalk.i64_in _ (by omega)]; omega
  have hw3 : IntKind.i64.wrap (((2 * (ncap + nflo) : Nat) : Int) + 2) = ((2 * (ncap + nflo) + 2 : Nat) : Int) := by rw [IntWalk.i64_in _ (by omega)]; omega
  clear hnc hnf
  go_enter Try.func24, Try.ntmps24
  go_wp2_with (go_at_call 27; refine (VN _ HN0).mono ?_; rintro e w1 ⟨rfl, hb1⟩; have HX1 := Kept.mk (HX0.out.new_ hb1); have HD1 := Kept.mk (join HD0.out hb1); clear n0 n1 hb1; have n0 := HX1.out.cell 0 (v := .slice cA ncap ck) rfl; have n1 := HX1.out.cell 1 (v := .slice fA nflo fk) rfl; have nl1 := HX1.out.lt)
  go_ret
  exact ⟨ret_int (by omega), HD1.out⟩
end Go.Proofs.Ytjalegdfofogcaa
