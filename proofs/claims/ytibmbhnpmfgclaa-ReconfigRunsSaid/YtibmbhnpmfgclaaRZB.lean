/- Reconfig: the reference's copied. -/
import Derived.Test.YtibmbhnpmfgclaaRZA
namespace Go.Proofs.Ytibmbhnpmfgclaa
set_option linter.unusedVariables false
set_option linter.unusedSimpArgs false
open Go.RowKit Go.Maps
theorem infoNo : (Try.prog.info? 68).map (fun i => (i.zero, i.size, i.bytes)) = some (some (.agg #[.int .i64 0, .int .i64 0, .bool false, .slice none 0 0]), 4, 48) := by kernel_rfl
theorem infoBo : (Try.prog.info? 4).map (fun i => (i.zero, i.size, i.bytes)) = some (some (.bool false), 1, 1) := by kernel_rfl
theorem own_empty (w : World) (t : TypeId) (sz base : Nat) (hb : base ≤ w.heap.size) : (w.alloc (.cells #[] t)).ownsRow base t sz (.slice (some ⟨w.heap.size, 0, none⟩) 0 0) 0 [] :=
  ⟨by simp, .inr ⟨w.heap.size, 0, _, rfl, hb, heap_alloc_new w _, Nat.le_refl _, by unfold maxLen; omega, by simp, by simp⟩⟩
/-- While the nodes are copied. -/
structure CopAt (w wr : World) (P : List Int) (S : RSt) (k : Nat) (An : Option Addr) (kn : Nat) (N : List Rn) : Prop where
  bx : Blk wr (w.heap.size + 2) 53 #[.slice (some ⟨S.gp, 0, none⟩) P.length S.kp, .slice An k kn]
  bp : Blk wr w.heap.size 53 #[.slice (some ⟨S.gp, 0, none⟩) P.length S.kp, .slice (some ⟨S.g, 0, none⟩) P.length S.kn]
  br : Blk wr (w.heap.size + 1) 53 #[.slice none 0 0, .slice none 0 0]
  own : wr.ownsRow (w.heap.size + 3) 68 4 (.slice An k kn) k (N.flatMap rcell)
  px : N.map Rn.x = (rps S).take k
  ans : ∀ n, n ∈ N → n.x.L ≠ [] → ∃ g, n.A = some ⟨g, 0, none⟩ ∧ w.heap.size ≤ g ∧ OwnAt wr g 4 1 ycell n.x.L
  dist : ∀ (u v : Nat) (a c : Rn), N[u]? = some a → N[v]? = some c → a.x.L ≠ [] → c.x.L ≠ [] → a.A = c.A → u = v
  blw : Below w.heap.size w wr
def RCopy (w : World) (P : List Int) (S : RSt) (e : Ending) (w' : World) : Prop :=
  ∃ S' : RSt, e = .returned (.agg #[.slice (some ⟨S'.gp, 0, none⟩) P.length S'.kp, .slice (some ⟨S'.g, 0, none⟩) P.length S'.kn]) ∧ rps S' = rps S ∧ RAt w' P S' ∧ w.heap.size ≤ S'.g ∧ (∀ n, n ∈ S'.N → n.x.L ≠ [] → ∀ g, n.A = some ⟨g, 0, none⟩ → w.heap.size ≤ g) ∧ Below w.heap.size w w'
theorem CopAt.step {w wr w8 w9 : World} {P : List Int} {S : RSt} {k kn kn2 k' : Nat} {An A' A2 : Option Addr} {N : List Rn} {n : Rn} (h : CopAt w wr P S k An kn N) (hn : S.N[k]? = some n) (hb8 : Below wr.heap.size wr w8)
    (hown8 : w8.ownsRow (wr.heap.size + 1) 4 1 (.slice A' n.x.L.length k') n.x.L.length (n.x.L.flatMap ycell)) (hgw : w8.grownBy w9 (Value.slice An k kn).ownBlock)
    (ho : w9.ownsRow (w.heap.size + 3) 68 4 (.slice A2 (k + 1) kn2) (k + 1) (N.flatMap rcell ++ rcell ⟨n.x, A', k'⟩)) : CopAt w (w9.setCell ⟨w.heap.size + 2, 1, none⟩ (.slice A2 (k + 1) kn2)) P S (k + 1) A2 kn2 (N ++ [⟨n.x, A', k'⟩]) := by
  have hrow : ∀ j, (Value.slice An k kn).ownBlock = some j → w.heap.size + 3 ≤ j ∧ j < wr.heap.size := fun j hj => h.own.lt j hj
  have hsz := h.bx.lt
  have hs8 := hb8.size
  have hkeep : ∀ {g : Nat} {l : List Bool}, OwnAt w8 g 4 1 ycell l → OwnAt (w9.setCell ⟨w.heap.size + 2, 1, none⟩ (.slice A2 (k + 1) kn2)) g 4 1 ycell l := fun {g l} hg => by
    obtain ⟨cs, hb⟩ := hg.blk
    have hne : g ≠ w.heap.size + 2 := Blk.ne_ hb (h.bx.new_ hb8) (by decide)
    exact (hg.grown hgw (fun e => own_blk_ne (own_new h.own hb8) hb (by decide) e.symm)).far hne _
  have hnew : n.x.L ≠ [] → ∃ g, A' = some ⟨g, 0, none⟩ ∧ wr.heap.size + 1 ≤ g ∧ OwnAt (w9.setCell ⟨w.heap.size + 2, 1, none⟩ (.slice A2 (k + 1) kn2)) g 4 1 ycell n.x.L := fun hl => by
    obtain ⟨g, e, hB, ho⟩ := OwnAt.of_own hown8 ycell_len (by omega) rfl (List.length_pos_iff.2 hl)
    exact ⟨g, e, hB, hkeep ho⟩
  have hlen : N.length = k := by
    have h2 := congrArg List.length h.px
    have := (List.getElem?_eq_some_iff.1 hn).1
    rw [List.length_map, List.length_take, rps_len] at h2
    omega
  refine ⟨((h.bx.new_ hb8).grown hgw (fun e => by have := (hrow _ e.symm).1; omega)).to 1 _ rfl, ((h.bp.new_ hb8).grown hgw (fun e => by have := (hrow _ e.symm).1; omega)).far (by simp only; omega) _, ((h.br.new_ hb8).grown hgw (fun e => by have := (hrow _ e.symm).1; omega)).far (by simp only; omega) _, ?_, ?_, ?_, ?_, ?_⟩
  · have := ownsRow_setCell_other ho (a := ⟨w.heap.size + 2, 1, none⟩) (fun e => by have := (ho.lt _ e).1; simp only at this; omega) (.slice A2 (k + 1) kn2)
    simpa using this
  · rw [List.map_append, h.px, List.take_add_one]
    have : (rps S)[k]? = some n.x := by simp [rps, hn]
    rw [this]; rfl
  · intro m hm hl
    rw [List.mem_append, List.mem_singleton] at hm
    rcases hm with hm | rfl
    · obtain ⟨g, e, h1, h2⟩ := h.ans m hm hl
      exact ⟨g, e, h1, hkeep (h2.new_ hb8)⟩
    · obtain ⟨g, e, h1, h2⟩ := hnew hl
      exact ⟨g, e, by omega, h2⟩
  · have hat : ∀ (u : Nat) (a : Rn), (N ++ [(⟨n.x, A', k'⟩ : Rn)])[u]? = some a → (u < k ∧ N[u]? = some a) ∨ (u = k ∧ a = ⟨n.x, A', k'⟩) := fun u a hu => by
      rw [List.getElem?_append] at hu
      split at hu
      · exact .inl ⟨by omega, hu⟩
      · have h0 : u - N.length = 0 := by
          have := (List.getElem?_eq_some_iff.1 hu).1
          simp at this; omega
        rw [h0] at hu
        simp at hu
        exact .inr ⟨by omega, hu.symm⟩
    have hno : ∀ (a : Rn), a ∈ N → a.x.L ≠ [] → n.x.L ≠ [] → a.A = A' → False := fun a ha hal hnl e => by
      obtain ⟨g, e1, _, h2⟩ := h.ans a ha hal
      obtain ⟨g', e2, h3, _⟩ := hnew hnl
      rw [e1, e2] at e
      injection e with e; injection e with e
      have := h2.lt
      omega
    intro u v a c hu hv hal hcl e
    rcases hat u a hu with ⟨h1, h2⟩ | ⟨h1, rfl⟩
    · rcases hat v c hv with ⟨h3, h4⟩ | ⟨h3, rfl⟩
      · exact h.dist u v a c h2 h4 hal hcl e
      · exact (hno a (List.mem_of_getElem? h2) hal hcl e).elim
    · rcases hat v c hv with ⟨h3, h4⟩ | ⟨h3, rfl⟩
      · exact (hno c (List.mem_of_getElem? h4) hcl hal e.symm).elim
      · omega
  · exact ((join h.blw hb8).grown hgw (by have := h.blw.size; omega) (fun j hj => by have := (hrow j hj).1; omega)).setCell (by simp only; omega) _
theorem CopAt.fin {w wr : World} {P : List Int} {S : RSt} {An : Option Addr} {kn : Nat} {N : List Rn} (h : CopAt w wr P S P.length An kn N) (hr : RAt w P S) :
    ∃ g, An = some ⟨g, 0, none⟩ ∧ w.heap.size ≤ g ∧ RAt wr P ⟨S.gp, S.kp, g, kn, N⟩ ∧ rps ⟨S.gp, S.kp, g, kn, N⟩ = rps S ∧ (∀ n, n ∈ N → n.x.L ≠ [] → ∀ g, n.A = some ⟨g, 0, none⟩ → w.heap.size ≤ g) := by
  have hN : N.map Rn.x = rps S := by rw [h.px, List.take_of_length_le (by rw [rps_len, hr.len]; exact Nat.le_refl _)]
  have hlen : N.length = P.length := by
    have := congrArg List.length hN
    rw [List.length_map, rps_len, hr.len] at this; exact this
  have hown := h.own
  obtain ⟨g, e, hB, ho⟩ := OwnAt.of_own hown rcell_len (by omega) hlen.symm hr.pos
  refine ⟨g, e, by omega, ⟨hr.pos, hr.sm, hr.par.new_ h.blw, ho, hlen, fun n hn => ?_, fun n hn hl => ?_, h.dist⟩, hN, fun n hn hl g hg => ?_⟩
  · have : n.x ∈ rps S := by rw [← hN]; exact List.mem_map.2 ⟨n, hn, rfl⟩
    obtain ⟨m, hm, e⟩ := List.mem_map.1 this
    rw [← e]; exact hr.lle m hm
  · obtain ⟨g, e, _, h2⟩ := h.ans n hn hl
    exact ⟨g, e, h2⟩
  · obtain ⟨g', e, h1, h2⟩ := h.ans n hn hl
    rw [e] at hg; injection hg with hg; injection hg with hg; omega
section
variable (w : World) (P : List Int) (S : RSt)
set_option maxRecDepth 100000 in
set_option maxHeartbeats 4000000 in
theorem copied_c (h : RAt w P S) : Calls Try.prog 52 #[.agg #[.slice (some ⟨S.gp, 0, none⟩) P.length S.kp, .slice (some ⟨S.g, 0, none⟩) P.length S.kn]] w (RCopy w P S) := by
  have HH := Kept.mk h
  have sm := h.sm
  have hlen := h.len
  obtain ⟨jj, hjj, hy0, hy1, hy2⟩ := info_parts infoNo
  obtain ⟨jb, hjb, hb0, hb1, hb2⟩ := info_parts infoBo
  clear h
  go_enter Try.func52, Try.ntmps52
  go_wp2_with fail
  go_loopw [4] (fun v4 wr => ∃ (k : Nat) (An : Option Addr) (kn : Nat) (N : List Rn), k ≤ P.length ∧ v4 = .int .i64 k ∧ Kept (CopAt w wr P S k An kn N)) (fun v4 _ => P.length - (intOf v4).toNat)
  case atStart =>
    refine ⟨0, none, 0, [], Nat.zero_le _, rfl, ⟨?_, ?_, ?_, World.ownsRow_nil _ _ _ _, by simp, fun n hn => by simp at hn, fun u v a c hu => by simp at hu, ?_⟩⟩
    · simpa using Blk.new ((w.alloc (.cells #[.slice (some ⟨S.gp, 0, none⟩) P.length S.kp, .slice (some ⟨S.g, 0, none⟩) P.length S.kn] 53)).alloc (.cells #[.slice none 0 0, .slice none 0 0] 53)) 53 #[.slice (some ⟨S.gp, 0, none⟩) P.length S.kp, .slice none 0 0]
    · exact ((Blk.new _ _ _).alloc _).alloc _
    · simpa using (Blk.new (w.alloc (.cells #[.slice (some ⟨S.gp, 0, none⟩) P.length S.kp, .slice (some ⟨S.g, 0, none⟩) P.length S.kn] 53)) 53 #[.slice none 0 0, .slice none 0 0]).alloc _
    · go_grown
  case round =>
    obtain ⟨k, An, kn, N, hk, rfl, HC⟩ := hrel
    have hz := HC.out.blw.size
    have z0 := HC.out.bp.lt
    have z2 := HC.out.bx.lt
    have k1 := HC.out.bp.cell 1 (v := .slice (some ⟨S.g, 0, none⟩) P.length S.kn) rfl
    by_cases hlt : k < P.length
    · obtain ⟨n, hn⟩ := get_some (l := S.N) (k := k) (by omega)
      have hN := (HH.out.new_ HC.out.blw).node hn
      have HR := Kept.mk (HH.out.new_ HC.out.blw)
      have HN := Kept.mk hn
      have n0 := hN.n0
      have n1 := hN.n1
      have n2 := hN.n2
      have n3 := hN.n3
      have zg := hN.zg
      have HL8 := Kept.mk (HR.out.lle n (List.mem_of_getElem? HN.out))
      have hll := HL8.out
      have zb := HC.out.bx.lt
      have HR6 : Kept (Reads ((wr.alloc (.cells #[.int .i64 n.x.ep, .int .i64 n.x.ph, .bool n.x.dr, .slice n.A n.x.L.length n.k] 68)).alloc (.cells #[] 4)) wr.heap.size 1 n.A n.x.L.length (n.x.L.flatMap ycell)) := ⟨((HR.out.reads (List.mem_of_getElem? HN.out)).alloc (Nat.le_refl _) _).alloc (by simp) _⟩
      have HE6 : Kept (((wr.alloc (.cells #[.int .i64 n.x.ep, .int .i64 n.x.ph, .bool n.x.dr, .slice n.A n.x.L.length n.k] 68)).alloc (.cells #[] 4)).ownsRow (wr.heap.size + 1) 4 1 (.slice (some ⟨wr.heap.size + 1, 0, none⟩) 0 0) 0 []) := ⟨by simpa using own_empty (wr.alloc (.cells #[.int .i64 n.x.ep, .int .i64 n.x.ph, .bool n.x.dr, .slice n.A n.x.L.length n.k] 68)) 4 1 (wr.heap.size + 1) (by simp)⟩
      have HB6 := Kept.mk ((Blk.new wr 68 #[.int .i64 n.x.ep, .int .i64 n.x.ph, .bool n.x.dr, .slice n.A n.x.L.length n.k]).alloc (.cells #[] 4))
      have HX6 := Kept.mk ((HC.out.bx.alloc (.cells #[.int .i64 n.x.ep, .int .i64 n.x.ph, .bool n.x.dr, .slice n.A n.x.L.length n.k] 68)).alloc (.cells #[] 4))
      have HD6 : Kept (Below wr.heap.size wr ((wr.alloc (.cells #[.int .i64 n.x.ep, .int .i64 n.x.ph, .bool n.x.dr, .slice n.A n.x.L.length n.k] 68)).alloc (.cells #[] 4))) := ⟨((Below.refl _ _).alloc (Nat.le_refl _) _).alloc (by simp) _⟩
      have h1 : ∀ u ∈ n.x.L.flatMap ycell, u.oneCell' = true := (by intro u hu; obtain ⟨b, _, hb⟩ := List.mem_flatMap.1 hu; simp [ycell] at hb; subst hb; rfl)
      have hkk := own_cap HC.out.own
      clear hn hN
      have tok1 : True := trivial
      have tok2 : True := trivial
      go_wp2_with (first | (at_builtin; have _t := tok1; refine wpList_append_any _ rfl _ _ _ rfl (wr.heap.size + 1) 4 jb _ 1 1 Try.underlying66 hjb hb0 hb1 hb2 rfl (by omega) _ 0 _ rfl HE6.out _ _ n.x.L.length n.k _ rfl HR6.out h1 (by unfold maxLen; omega) (by omega) (by simp) ?_; intro v' w7 ho hgw hat; rw [Nat.zero_add, List.nil_append] at ho; obtain ⟨A', k', rfl⟩ := own_slice ho; have HO7 := Kept.mk ho; change World.grownBy _ _ (some (wr.heap.size + 1)) at hgw; have HB7 := Kept.mk (HB6.out.grown hgw (by simp)); have HX7 := Kept.mk (HX6.out.grown hgw (by simp; omega)); have HD7 := Kept.mk (HD6.out.grown hgw (by simp; omega) (fun j hj => by injection hj with hj; omega)); clear tok1 ho hgw hat; have d0 := HB7.out.cell 0 (v := .int .i64 n.x.ep) rfl; have d1 := HB7.out.cell 1 (v := .int .i64 n.x.ph) rfl; have d2 := HB7.out.cell 2 (v := .bool n.x.dr) rfl; have d3 := HB7.out.cell 3 (v := .slice n.A n.x.L.length n.k) rfl; have df := HB7.out.free 3; have x1 := HX7.out.cell 1 (v := .slice An k kn) rfl; have xf := HX7.out.free 1; have z7 := HB7.out.lt; have z8 := HX7.out.lt; have HD8 : Kept (Below wr.heap.size wr ((w7.setCell ⟨wr.heap.size, 3, none⟩ (.slice A' n.x.L.length k')).alloc (.cells #[.int .i64 n.x.ep, .int .i64 n.x.ph, .bool n.x.dr, .slice A' n.x.L.length k'] 68))) := ⟨(HD7.out.setCell (by show wr.heap.size ≤ wr.heap.size; omega) _).alloc (by rw [size_set']; omega) _⟩; have HO8 : Kept (World.ownsRow ((w7.setCell ⟨wr.heap.size, 3, none⟩ (.slice A' n.x.L.length k')).alloc (.cells #[.int .i64 n.x.ep, .int .i64 n.x.ph, .bool n.x.dr, .slice A' n.x.L.length k'] 68)) (wr.heap.size + 1) 4 1 (.slice A' n.x.L.length k') n.x.L.length (n.x.L.flatMap ycell)) := ⟨(ownsRow_setCell_other HO7.out (a := ⟨wr.heap.size, 3, none⟩) (fun e => by have := (HO7.out.lt _ e).1; simp only at this; omega) _).alloc _⟩; have HN8 : Kept (World.ownsRow ((w7.setCell ⟨wr.heap.size, 3, none⟩ (.slice A' n.x.L.length k')).alloc (.cells #[.int .i64 n.x.ep, .int .i64 n.x.ph, .bool n.x.dr, .slice A' n.x.L.length k'] 68)) (w.heap.size + 3) 68 4 (.slice An k kn) k (N.flatMap rcell)) := ⟨own_new HC.out.own HD8.out⟩; have HM8 : Kept (Reads ((w7.setCell ⟨wr.heap.size, 3, none⟩ (.slice A' n.x.L.length k')).alloc (.cells #[.int .i64 n.x.ep, .int .i64 n.x.ph, .bool n.x.dr, .slice A' n.x.L.length k'] 68)) (w7.heap.size + 1) 4 (some ⟨w7.heap.size, 0, none⟩) 1 (rcell ⟨n.x, A', k'⟩)) := ⟨by simpa [size_set', rcell] using reads_made (w7.setCell ⟨wr.heap.size, 3, none⟩ (.slice A' n.x.L.length k')) #[.int .i64 n.x.ep, .int .i64 n.x.ph, .bool n.x.dr, .slice A' n.x.L.length k'] 68 4 1 rfl⟩; have g2 : ∀ u ∈ rcell ⟨n.x, A', k'⟩, u.oneCell' = true := (by intro u hu; simp [rcell] at hu; rcases hu with rfl | rfl | rfl | rfl <;> rfl)) | (at_builtin; have _t := tok2; refine wpList_append_any _ rfl _ _ _ rfl (w.heap.size + 3) 68 jj _ 4 48 Try.underlying51 hjj hy0 hy1 hy2 rfl (by omega) _ k _ rfl HN8.out _ _ 1 1 _ rfl HM8.out g2 (by unfold maxLen; omega) (by omega) (by simp; omega) ?_; intro v'' w9 ho hgw hat; obtain ⟨A2, kn2, rfl⟩ := own_slice ho; have HO9 := Kept.mk ho; change World.grownBy _ _ (Value.slice An k kn).ownBlock at hgw; have HG9 := Kept.mk hgw; have HX9 : Kept (Blk w9 (w.heap.size + 2) 53 #[.slice (some ⟨S.gp, 0, none⟩) P.length S.kp, .slice An k kn]) := ⟨(HC.out.bx.new_ HD8.out).grown hgw (fun e => by have := (HC.out.own.lt _ e.symm).1; omega)⟩; clear tok2 ho hgw hat; have y1 := HX9.out.cell 1 (v := .slice An k kn) rfl; have yf := HX9.out.free 1; have z9 := HX9.out.lt))
      go_roundw
      case rel => exact ⟨k + 1, A2, kn2, N ++ [⟨n.x, A', k'⟩], by omega, by go_num, ⟨HC.out.step HN.out HD8.out HO8.out HG9.out HO9.out⟩⟩
      case measure => simp [intOf]; omega
    · obtain rfl : k = P.length := by omega
      obtain ⟨g, rfl, hg, hA, hps, hnew⟩ := HC.out.fin HH.out
      have HA := Kept.mk hA
      have HP := Kept.mk hps
      have HW := Kept.mk hnew
      have z1 := HC.out.br.lt
      have r0 := HC.out.br.cell 0 (v := .slice none 0 0) rfl
      have r1 := HC.out.br.cell 1 (v := .slice none 0 0) rfl
      have f0 := HC.out.br.free 0
      have f1 := HC.out.br.free 1
      have c0 := HC.out.bx.cell 0 (v := .slice (some ⟨S.gp, 0, none⟩) P.length S.kp) rfl
      have c1 := HC.out.bx.cell 1 (v := .slice (some ⟨g, 0, none⟩) P.length kn) rfl
      have HS := Kept.mk ((HC.out.br.set_ 0 (.slice (some ⟨S.gp, 0, none⟩) P.length S.kp)).set_ 1 (.slice (some ⟨g, 0, none⟩) P.length kn))
      have HO : Kept (OnlyP (fun b => b = w.heap.size + 1) wr ((wr.setCell ⟨w.heap.size + 1, 0, none⟩ (.slice (some ⟨S.gp, 0, none⟩) P.length S.kp)).setCell ⟨w.heap.size + 1, 1, none⟩ (.slice (some ⟨g, 0, none⟩) P.length kn))) := ⟨((OnlyP.refl (fun b => b = w.heap.size + 1) wr).set (p := ⟨w.heap.size + 1, 0, none⟩) (.inl rfl) _).set (p := ⟨w.heap.size + 1, 1, none⟩) (.inl rfl) _⟩
      have HD : Kept (Below w.heap.size w ((wr.setCell ⟨w.heap.size + 1, 0, none⟩ (.slice (some ⟨S.gp, 0, none⟩) P.length S.kp)).setCell ⟨w.heap.size + 1, 1, none⟩ (.slice (some ⟨g, 0, none⟩) P.length kn))) := ⟨(HC.out.blw.setCell (by show w.heap.size ≤ w.heap.size + 1; omega) _).setCell (by show w.heap.size ≤ w.heap.size + 1; omega) _⟩
      have HA2 := Kept.mk (HA.out.only HO.out (fun b hb _ => by subst hb; exact ⟨_, _, HC.out.br, by decide, by decide, by decide⟩))
      clear hlt hA hps hnew
      go_wp2_with fail
      have s0 := HS.out.cell 0 (v := .slice (some ⟨S.gp, 0, none⟩) P.length S.kp) rfl
      have s1 := HS.out.cell 1 (v := .slice (some ⟨g, 0, none⟩) P.length kn) rfl
      have a2 := HD.out
      have a3 := HA2.out
      clear HS HO HD HA2 HA
      generalize ((wr.setCell ⟨w.heap.size + 1, 0, none⟩ (.slice (some ⟨S.gp, 0, none⟩) P.length S.kp)).setCell ⟨w.heap.size + 1, 1, none⟩ (.slice (some ⟨g, 0, none⟩) P.length kn)) = W at *
      refine bodyPost_ret (v := .agg #[.slice (some ⟨S.gp, 0, none⟩) P.length S.kp, .slice (some ⟨g, 0, none⟩) P.length kn]) (by simp [results, Try.results52, go_sem, s0, s1]) rfl ?_
      exact ⟨⟨S.gp, S.kp, g, kn, N⟩, rfl, HP.out, a3, hg, HW.out, a2⟩
end
end Go.Proofs.Ytibmbhnpmfgclaa
