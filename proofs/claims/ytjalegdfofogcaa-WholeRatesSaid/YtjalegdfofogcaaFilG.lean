/- Levels: the filling, level by level. -/
import Derived.Test.YtjalegdfofogcaaFilP
namespace Go.Proofs.Ytjalegdfofogcaa
set_option linter.unusedVariables false
set_option linter.unusedSimpArgs false
open Go.RowKit
/-- A level in memory: its rate, its flows, where they lie. -/
structure PLev where
  R : Rq
  fl : List Int
  A : Option Addr
  kap : Nat
def vcell (p : PLev) : List Value := [.int .i64 p.R.n, .int .i64 p.R.d, .slice p.A p.fl.length p.kap]
theorem vcell_len (p : PLev) : (vcell p).length = 3 := rfl
theorem infoL : (Try.prog.info? 68).map (fun i => (i.zero, i.size, i.bytes)) = some (some (.agg #[.int .i64 0, .int .i64 0, .slice none 0 0]), 3, 40) := by kernel_rfl
theorem own_grown {W W' : World} {B sz k : Nat} {e : TypeId} {v : Value} {xs : List Value} {row : Option Nat} (h : W.ownsRow B e sz v k xs) (hw : W.grownBy W' row) (hne : ∀ q, v.ownBlock = some q → some q ≠ row) : W'.ownsRow B e sz v k xs :=
  own_move h fun q hq => hw.block q (h.lt q hq).2 (hne q hq)
theorem own_own_ne {W : World} {B B' sz sz' k k' : Nat} {e e' : TypeId} {v v' : Value} {xs xs' : List Value} (h : W.ownsRow B e sz v k xs) (h' : W.ownsRow B' e' sz' v' k' xs') (hne : e ≠ e') : ∀ q, v.ownBlock = some q → some q ≠ v'.ownBlock := by
  intro q hq hq'
  rcases h.2 with ⟨rfl, _⟩ | ⟨g, cap, cur, rfl, _, hh, _⟩
  · cases hq
  · have : g = q := by simpa [Value.ownBlock] using hq
    subst this
    exact own_blk_ne h' hh (fun e9 => hne e9.symm) hq'.symm
structure GB (w W : World) (g gr gz b0 : Nat) (n : PNet) (rs : List Rq) (fz : List Bool) (v : Value) (lv : List PLev) : Prop where
  x : Blk W w.heap.size 25 #[.slice n.cA n.caps.length n.ck, .slice n.fA n.flows.length n.fk]
  st : FillAt W w.heap.size g gr gz n rs fz
  blw : Below w.heap.size w W
  lo : w.heap.size < g ∧ w.heap.size < gr ∧ w.heap.size < gz ∧ g < b0 ∧ gr < b0 ∧ gz < b0
  own : W.ownsRow b0 68 3 v lv.length (lv.flatMap vcell)
  sub : ∀ p ∈ lv, W.ownsRow b0 3 1 (.slice p.A p.fl.length p.kap) p.fl.length (p.fl.flatMap icell)
  hs : b0 ≤ W.heap.size
section
variable {w W W' : World} {g gr gz b0 : Nat} {n : PNet} {rs : List Rq} {fz : List Bool} {v : Value} {lv : List PLev}
theorem GB.new_ (h : GB w W g gr gz b0 n rs fz v lv) (hb : Below W.heap.size W W') : GB w W' g gr gz b0 n rs fz v lv :=
  ⟨h.x.new_ hb, h.st.new_ hb, join h.blw hb, h.lo, own_new h.own hb, fun p hp => own_new (h.sub p hp) hb, Nat.le_trans h.hs hb.size⟩
theorem GB.alloc (h : GB w W g gr gz b0 n rs fz v lv) (o : Obj) : GB w (W.alloc o) g gr gz b0 n rs fz v lv := h.new_ ((Below.refl _ _).alloc (Nat.le_refl _) o)
theorem FillAt.put {B : Nat} (h : FillAt W B g gr gz n rs fz) {k : Nat} (hk : k < n.flows.length) {R : Rq} (hR : R64 R.n ∧ R64 R.d) :
    FillAt (((W.setCell ⟨gr, k * 2, none⟩ (.int .i64 R.n)).setCell ⟨gr, k * 2 + 1, none⟩ (.int .i64 R.d)).setCell ⟨gz, k, none⟩ (.bool true)) B g gr gz n (rs.set k R) (fz.set k true) := by
  have h1 : g ≠ gr := Blk.ne_ h.box h.rr (by decide)
  have h2 : g ≠ gz := Blk.ne_ h.box h.rz (by decide)
  have h3 : gr ≠ gz := Blk.ne_ h.rr h.rz (by decide)
  have hb := h.bg
  refine ⟨((h.box.far h1 _).far h1 _).far h2 _, ?_, (h.rr.set2 ccell_len (by rw [h.lr]; exact hk) rfl).far h3 _, ((h.rz.far (p := ⟨gr, k * 2, none⟩) (fun e => h3 e.symm) _).far (p := ⟨gr, k * 2 + 1, none⟩) (fun e => h3 e.symm) _).set1 boolc_len (by rw [h.lz]; exact hk) rfl, by rw [List.length_set]; exact h.lr, by rw [List.length_set]; exact h.lz, hb, fun r hr => ?_⟩
  · refine h.net.keep (B' := B) fun q hq => ?_
    rw [World.cell?_setCell_other _ _ _ _ (fun e => by subst e; simp only at hq; omega), World.cell?_setCell_other _ _ _ _ (fun e => by subst e; simp only at hq; omega), World.cell?_setCell_other _ _ _ _ (fun e => by subst e; simp only at hq; omega)]
  · rcases List.mem_or_eq_of_mem_set hr with h9 | rfl
    · exact h.r64 r h9
    · exact hR
/-- .. and the newest level's box and row. -/
structure GL (w W : World) (g gr gz b0 : Nat) (n : PNet) (rs : List Rq) (fz : List Bool) (v : Value) (lv : List PLev) (b6 : Nat) (p : PLev) : Prop where
  gb : GB w W g gr gz b0 n rs fz v lv
  bx : Blk W b6 68 #[.int .i64 p.R.n, .int .i64 p.R.d, .slice p.A p.fl.length p.kap]
  sub : W.ownsRow b0 3 1 (.slice p.A p.fl.length p.kap) p.fl.length (p.fl.flatMap icell)
  hb : b0 ≤ b6
theorem GL.alloc {b6 : Nat} {p : PLev} (h : GL w W g gr gz b0 n rs fz v lv b6 p) (o : Obj) : GL w (W.alloc o) g gr gz b0 n rs fz v lv b6 p := ⟨h.gb.alloc o, h.bx.alloc o, own_new h.sub ((Below.refl _ _).alloc (Nat.le_refl _) o), h.hb⟩
theorem GL.put {b6 : Nat} {p : PLev} (h : GL w W g gr gz b0 n rs fz v lv b6 p) {k : Nat} (hk : k < n.flows.length) {R : Rq} (hR : R64 R.n ∧ R64 R.d) :
    GL w (((W.setCell ⟨gr, k * 2, none⟩ (.int .i64 R.n)).setCell ⟨gr, k * 2 + 1, none⟩ (.int .i64 R.d)).setCell ⟨gz, k, none⟩ (.bool true)) g gr gz b0 n (rs.set k R) (fz.set k true) v lv b6 p := by
  obtain ⟨l1, l2, l3, l4, l5, l6⟩ := h.gb.lo
  have hb := h.hb
  have mv : ∀ {e : TypeId} {sz m : Nat} {u : Value} {xs : List Value}, W.ownsRow b0 e sz u m xs → (((W.setCell ⟨gr, k * 2, none⟩ (.int .i64 R.n)).setCell ⟨gr, k * 2 + 1, none⟩ (.int .i64 R.d)).setCell ⟨gz, k, none⟩ (.bool true)).ownsRow b0 e sz u m xs := fun ho => own_move ho fun q hq => by
    have := (ho.lt q hq).1
    rw [Below.heap_setCell _ _ _ q (by simp only; omega), Below.heap_setCell _ _ _ q (by simp only; omega), Below.heap_setCell _ _ _ q (by simp only; omega)]
  exact ⟨⟨((h.gb.x.far (by simp only; omega) _).far (by simp only; omega) _).far (by simp only; omega) _, h.gb.st.put hk hR, ((h.gb.blw.setCell (by simp only; omega) _).setCell (by simp only; omega) _).setCell (by simp only; omega) _, h.gb.lo, mv h.gb.own, fun p hp => mv (h.gb.sub p hp), by simp only [World.size_setCell]; exact h.gb.hs⟩,
    ((h.bx.far (by simp only; omega) _).far (by simp only; omega) _).far (by simp only; omega) _, mv h.sub, hb⟩
theorem GB.grow {v' : Value} {p : PLev} (h : GB w W g gr gz b0 n rs fz v lv) (hp : W.ownsRow b0 3 1 (.slice p.A p.fl.length p.kap) p.fl.length (p.fl.flatMap icell)) (ho : W'.ownsRow b0 68 3 v' (lv.length + 1) (lv.flatMap vcell ++ vcell p)) (hw : W.grownBy W' v.ownBlock) :
    GB w W' g gr gz b0 n rs fz v' (lv ++ [p]) := by
  obtain ⟨l1, l2, l3, l4, l5, l6⟩ := h.lo
  have hrow : ∀ q, v.ownBlock = some q → b0 ≤ q := fun q hq => (h.own.lt q hq).1
  have hO := (OnlyP.refl (fun q => b0 ≤ q) W).grown hw (fun q hq => .inl (hrow q hq))
  have hs : ∀ {p : PLev}, W.ownsRow b0 3 1 (.slice p.A p.fl.length p.kap) p.fl.length (p.fl.flatMap icell) → W'.ownsRow b0 3 1 (.slice p.A p.fl.length p.kap) p.fl.length (p.fl.flatMap icell) := fun hh => own_grown hh hw (own_own_ne hh h.own (by decide))
  refine ⟨h.x.only hO (by omega), h.st.only hO (fun b hb => by omega), joinP h.blw hO (fun b hb => by omega) (Nat.le_refl _), h.lo, ?_, fun q hq => ?_, Nat.le_trans h.hs hw.size⟩
  · rw [List.length_append, List.flatMap_append]
    simpa using ho
  · rw [List.mem_append, List.mem_singleton] at hq
    rcases hq with hq | rfl
    · exact hs (h.sub q hq)
    · exact hs hp
end
/-- The levels are those of the filling. -/
def LevsOf (n : PNet) (lv : List PLev) : Prop := ∀ (j : Nat) (p : PLev), lv[j]? = some p → p.R = rateQ n (itr n j).2 (itr n j).1 ∧ p.fl = frzL n (itr n j).2 (itr n j).1 n.flows.length
def LevR (w : World) (n : PNet) (e : Ending) (w' : World) : Prop := ∃ (lv : List PLev) (A : Option Addr) (kap : Nat), e = .returned (.tuple #[.slice A lv.length kap, .int .i64 0]) ∧ RowsAt w' w'.heap.size 3 vcell A lv ∧ (lv.length ≤ kap ∧ kap ≤ maxLen) ∧ (∀ p ∈ lv, RowsAt w' w'.heap.size 1 icell p.A p.fl ∧ p.fl.length ≤ p.kap ∧ p.kap ≤ maxLen) ∧ LevsOf n lv ∧ (∀ j, j < lv.length → (itr n j).2.contains false = true) ∧ (itr n lv.length).2.contains false = false ∧ Below w.heap.size w w'
theorem itr_ok {n : PNet} (hn : NetOk n) : ∀ m, (∀ j, j < m → (itr n j).2.contains false = true) → StOk n m (itr n m).1 (itr n m).2
  | 0, _ => StOk.start n
  | m + 1, h => StOk.next hn (itr_ok hn m fun j hj => h j (by omega)) (h m (by omega))
set_option maxRecDepth 100000 in
set_option maxHeartbeats 16000000 in
theorem levels_c (n : PNet) (w : World) (hn : NetAt w w.heap.size n) (hv : netOk n = true) (hok : NetOk n) : Calls Try.prog 31 #[nval n] w (LevR w n) := by
  have HN := Kept.mk hn
  have HV := Kept.mk hv
  have HOK := Kept.mk hok
  have VN := fun w h => valid_net_c n w h
  have hf5 := hok.nf
  clear hn hv hok
  obtain ⟨caps, cA, ck, flows, fA, fk⟩ := n
  dsimp only at hf5
  unfold nval at VN ⊢
  dsimp only at VN ⊢
  have hmkR := fun w => run_make_flat (P := Try.prog) ccell_len (by omega) (⟨0, 0⟩ : Rq) 22 32 _ 16 Try.underlying22 infoR rfl flows.length (by omega) (by omega) w
  have hmkB := fun w => run_make_flat (P := Try.prog) boolc_len (by omega) false 47 4 _ 1 Try.underlying47 infoO rfl flows.length (by omega) (by omega) w
  have HX0 := Kept.mk (Blk.new w 25 #[.slice cA caps.length ck, .slice fA flows.length fk])
  have HD0 : Kept (Below w.heap.size w (w.alloc (.cells #[.slice cA caps.length ck, .slice fA flows.length fk] 25))) := ⟨by go_grown⟩
  have HN0 := HN.out.new_ HD0.out
  have n0 := HX0.out.cell 0 (v := .slice cA caps.length ck) rfl
  have n1 := HX0.out.cell 1 (v := .slice fA flows.length fk) rfl
  go_enter Try.func31, Try.ntmps31
  go_upto_region 3 with (go_at_call 27; refine (VN _ HN0).mono ?_; rintro e w1 ⟨rfl, hb1⟩; rw [HV.out]; have HX1 := Kept.mk (HX0.out.new_ hb1); have HD1 := Kept.mk (join HD0.out hb1); clear hb1)
  have n2 := HX1.out.cell 0 (v := .slice cA caps.length ck) rfl
  have n3 := HX1.out.cell 1 (v := .slice fA flows.length fk) rfl
  have l1 := HX1.out.lt
  have HNN := Kept.mk HN0
  clear n0 n1 HN0
  go_cut [4] (fun v4 wx => ∃ g gr gz : Nat, v4 = .pointer (some ⟨g, 0, none⟩) ∧ Kept (Blk wx w.heap.size 25 #[.slice cA caps.length ck, .slice fA flows.length fk] ∧ Below w.heap.size w wx ∧ FillAt wx w.heap.size g gr gz ⟨caps, cA, ck, flows, fA, fk⟩ (List.replicate flows.length ⟨0, 0⟩) (List.replicate flows.length false) ∧ w.heap.size < g ∧ w.heap.size < gr ∧ w.heap.size < gz))
  case first =>
    obtain ⟨Z, hZ⟩ : ∃ Z, Z = w1 := ⟨_, rfl⟩
    rw [← hZ] at HX1 HD1 ⊢
    clear hZ n2 n3 l1
    refine with_act fun aq haq => ?_
    refine wp_region_inv (fun L az w1z => ∃ (x4 x13 x14 x15 x16 x17 x18 x19 x20 x21 x22 : Value), az = (((((((((((aq.put (some 4) x4).put (some 13) x13).put (some 14) x14).put (some 15) x15).put (some 16) x16).put (some 17) x17).put (some 18) x18).put (some 19) x19).put (some 20) x20).put (some 21) x21).put (some 22) x22) ∧ (Below Z.heap.size Z w1z) ∧ (L.getD 0 false = true → x13 = .agg #[.slice cA caps.length ck, .slice fA flows.length fk]) ∧ (L.getD 1 false = true → x14 = .pointer (some ⟨w.heap.size, 1, none⟩)) ∧ (L.getD 2 false = true → x15 = .slice fA flows.length fk) ∧ (L.getD 3 false = true → x16 = .int .i64 (flows.length : Int)) ∧ (L.getD 4 false = true → ∃ b : Nat, x17 = .slice (some ⟨b, 0, none⟩) flows.length flows.length ∧ Z.heap.size ≤ b ∧ RowBlk w1z b 32 ccell (List.replicate flows.length ⟨0, 0⟩)) ∧ (L.getD 5 false = true → x18 = .pointer (some ⟨w.heap.size, 1, none⟩)) ∧ (L.getD 6 false = true → x19 = .slice fA flows.length fk) ∧ (L.getD 7 false = true → x20 = .int .i64 (flows.length : Int)) ∧ (L.getD 8 false = true → ∃ b : Nat, x21 = .slice (some ⟨b, 0, none⟩) flows.length flows.length ∧ Z.heap.size ≤ b ∧ RowBlk w1z b 4 boolc (List.replicate flows.length false)) ∧ (L.getD 9 false = true → x22 = .agg #[.slice cA caps.length ck, .slice fA flows.length fk, x17, x21]) ∧ (L.getD 10 false = true → ∃ b : Nat, x4 = .pointer (some ⟨b, 0, none⟩) ∧ Z.heap.size ≤ b ∧ Blk w1z b 100 (if L.getD 11 false = true then #[.slice cA caps.length ck, .slice fA flows.length fk, x17, x21] else #[.slice none 0 0, .slice none 0 0, .slice none 0 0, .slice none 0 0])) ∧ (L.getD 11 false = true → L.getD 10 false = true) ∧ (L.getD 11 false = true → L.getD 9 false = true) ∧ (L.getD 9 false = true → L.getD 4 false = true) ∧ (L.getD 9 false = true → L.getD 8 false = true)) (by kernel_rfl) (by kernel_rfl) ?start ?oper ?done
    case start =>
      refine ⟨aq.tmps.getD 4 undef, aq.tmps.getD 13 undef, aq.tmps.getD 14 undef, aq.tmps.getD 15 undef, aq.tmps.getD 16 undef, aq.tmps.getD 17 undef, aq.tmps.getD 18 undef, aq.tmps.getD 19 undef, aq.tmps.getD 20 undef, aq.tmps.getD 21 undef, aq.tmps.getD 22 undef, by subst haq; simp only [Act.put, List.setIfInBounds_toArray, List.set_cons_zero, List.set_cons_succ, Array.getD_eq_getD_getElem?, List.getElem?_toArray, List.getElem?_cons_zero, List.getElem?_cons_succ, Option.getD_some], dN (Below.refl Z.heap.size Z) 1, none_yet, none_yet, none_yet, none_yet, none_yet, none_yet, none_yet, none_yet, none_yet, none_yet, none_yet, none_yet, none_yet, none_yet, none_yet⟩
    case oper =>
      intro L az w1z i hI hr
      obtain ⟨x4, x13, x14, x15, x16, x17, x18, x19, x20, x21, x22, rfl, f0, f1, f2, f3, f4, f5, f6, f7, f8, f9, f10, f11, f12, f13, f14, f15⟩ := hI
      subst haq
      have hi : i < 12 := ready_lt hr
      have hcase : i = 0 ∨ i = 1 ∨ i = 2 ∨ i = 3 ∨ i = 4 ∨ i = 5 ∨ i = 6 ∨ i = 7 ∨ i = 8 ∨ i = 9 ∨ i = 10 ∨ i = 11 := by omega
      clear hi
      rcases hcase with rfl | rfl | rfl | rfl | rfl | rfl | rfl | rfl | rfl | rfl | rfl | rfl
      · have HH := HX1.out.new_ f0
        have n0 := HH.cell 0 (v := .slice cA caps.length ck) rfl
        have n1 := HH.cell 1 (v := .slice fA flows.length fk) rfl
        have l1 := HH.lt
        refine inv_op rfl (fun K hK => ?_)
        try simp only [Act.put, List.setIfInBounds_toArray, List.set_cons_zero, List.set_cons_succ]
        go_simp
        refine hK.out _ _ ⟨x4, .agg #[.slice cA caps.length ck, .slice fA flows.length fk], x14, x15, x16, x17, x18, x19, x20, x21, x22, (by simp only [Act.put, List.setIfInBounds_toArray, List.set_cons_zero, List.set_cons_succ]), f0, (fun _ => rfl), (fun h => by first | exact f2 (by rwa [set_other (by decide)] at h) | (rw [set_other (by decide)] at h ⊢; exact f2 h)), (fun h => by first | exact f3 (by rwa [set_other (by decide)] at h) | (rw [set_other (by decide)] at h ⊢; exact f3 h)), (fun h => by first | exact f4 (by rwa [set_other (by decide)] at h) | (rw [set_other (by decide)] at h ⊢; exact f4 h)), (fun h => by first | exact f5 (by rwa [set_other (by decide)] at h) | (rw [set_other (by decide)] at h ⊢; exact f5 h)), (fun h => by first | exact f6 (by rwa [set_other (by decide)] at h) | (rw [set_other (by decide)] at h ⊢; exact f6 h)), (fun h => by first | exact f7 (by rwa [set_other (by decide)] at h) | (rw [set_other (by decide)] at h ⊢; exact f7 h)), (fun h => by first | exact f8 (by rwa [set_other (by decide)] at h) | (rw [set_other (by decide)] at h ⊢; exact f8 h)), (fun h => by first | exact f9 (by rwa [set_other (by decide)] at h) | (rw [set_other (by decide)] at h ⊢; exact f9 h)), (fun h => by first | exact f10 (by rwa [set_other (by decide)] at h) | (rw [set_other (by decide)] at h ⊢; exact f10 h)), (fun h => by rw [set_other (by decide)] at h ⊢; obtain ⟨b, e, hb, hB⟩ := f11 h; exact ⟨b, e, hb, hB⟩), (fun h => by first | exact f12 (by rwa [set_other (by decide)] at h) | (rw [set_other (by decide)] at h ⊢; exact f12 h)), (fun h => by first | exact f13 (by rwa [set_other (by decide)] at h) | (rw [set_other (by decide)] at h ⊢; exact f13 h)), (fun h => by first | exact f14 (by rwa [set_other (by decide)] at h) | (rw [set_other (by decide)] at h ⊢; exact f14 h)), (fun h => by first | exact f15 (by rwa [set_other (by decide)] at h) | (rw [set_other (by decide)] at h ⊢; exact f15 h))⟩
      · refine inv_op rfl (fun K hK => ?_)
        try simp only [Act.put, List.setIfInBounds_toArray, List.set_cons_zero, List.set_cons_succ]
        go_simp
        refine hK.out _ _ ⟨x4, x13, .pointer (some ⟨w.heap.size, 1, none⟩), x15, x16, x17, x18, x19, x20, x21, x22, (by simp only [Act.put, List.setIfInBounds_toArray, List.set_cons_zero, List.set_cons_succ]), f0, (fun h => by first | exact f1 (by rwa [set_other (by decide)] at h) | (rw [set_other (by decide)] at h ⊢; exact f1 h)), (fun _ => rfl), (fun h => by first | exact f3 (by rwa [set_other (by decide)] at h) | (rw [set_other (by decide)] at h ⊢; exact f3 h)), (fun h => by first | exact f4 (by rwa [set_other (by decide)] at h) | (rw [set_other (by decide)] at h ⊢; exact f4 h)), (fun h => by first | exact f5 (by rwa [set_other (by decide)] at h) | (rw [set_other (by decide)] at h ⊢; exact f5 h)), (fun h => by first | exact f6 (by rwa [set_other (by decide)] at h) | (rw [set_other (by decide)] at h ⊢; exact f6 h)), (fun h => by first | exact f7 (by rwa [set_other (by decide)] at h) | (rw [set_other (by decide)] at h ⊢; exact f7 h)), (fun h => by first | exact f8 (by rwa [set_other (by decide)] at h) | (rw [set_other (by decide)] at h ⊢; exact f8 h)), (fun h => by first | exact f9 (by rwa [set_other (by decide)] at h) | (rw [set_other (by decide)] at h ⊢; exact f9 h)), (fun h => by first | exact f10 (by rwa [set_other (by decide)] at h) | (rw [set_other (by decide)] at h ⊢; exact f10 h)), (fun h => by rw [set_other (by decide)] at h ⊢; obtain ⟨b, e, hb, hB⟩ := f11 h; exact ⟨b, e, hb, hB⟩), (fun h => by first | exact f12 (by rwa [set_other (by decide)] at h) | (rw [set_other (by decide)] at h ⊢; exact f12 h)), (fun h => by first | exact f13 (by rwa [set_other (by decide)] at h) | (rw [set_other (by decide)] at h ⊢; exact f13 h)), (fun h => by first | exact f14 (by rwa [set_other (by decide)] at h) | (rw [set_other (by decide)] at h ⊢; exact f14 h)), (fun h => by first | exact f15 (by rwa [set_other (by decide)] at h) | (rw [set_other (by decide)] at h ⊢; exact f15 h))⟩
      · obtain rfl := f2 (ready_dep hr (d := 1) (by kernel_rfl))
        have HH := HX1.out.new_ f0
        have n0 := HH.cell 0 (v := .slice cA caps.length ck) rfl
        have n1 := HH.cell 1 (v := .slice fA flows.length fk) rfl
        have l1 := HH.lt
        refine inv_op rfl (fun K hK => ?_)
        try simp only [Act.put, List.setIfInBounds_toArray, List.set_cons_zero, List.set_cons_succ]
        go_simp
        refine hK.out _ _ ⟨x4, x13, .pointer (some ⟨w.heap.size, 1, none⟩), .slice fA flows.length fk, x16, x17, x18, x19, x20, x21, x22, (by simp only [Act.put, List.setIfInBounds_toArray, List.set_cons_zero, List.set_cons_succ]), f0, (fun h => by first | exact f1 (by rwa [set_other (by decide)] at h) | (rw [set_other (by decide)] at h ⊢; exact f1 h)), (fun _ => rfl), (fun _ => rfl), (fun h => by first | exact f4 (by rwa [set_other (by decide)] at h) | (rw [set_other (by decide)] at h ⊢; exact f4 h)), (fun h => by first | exact f5 (by rwa [set_other (by decide)] at h) | (rw [set_other (by decide)] at h ⊢; exact f5 h)), (fun h => by first | exact f6 (by rwa [set_other (by decide)] at h) | (rw [set_other (by decide)] at h ⊢; exact f6 h)), (fun h => by first | exact f7 (by rwa [set_other (by decide)] at h) | (rw [set_other (by decide)] at h ⊢; exact f7 h)), (fun h => by first | exact f8 (by rwa [set_other (by decide)] at h) | (rw [set_other (by decide)] at h ⊢; exact f8 h)), (fun h => by first | exact f9 (by rwa [set_other (by decide)] at h) | (rw [set_other (by decide)] at h ⊢; exact f9 h)), (fun h => by first | exact f10 (by rwa [set_other (by decide)] at h) | (rw [set_other (by decide)] at h ⊢; exact f10 h)), (fun h => by rw [set_other (by decide)] at h ⊢; obtain ⟨b, e, hb, hB⟩ := f11 h; exact ⟨b, e, hb, hB⟩), (fun h => by first | exact f12 (by rwa [set_other (by decide)] at h) | (rw [set_other (by decide)] at h ⊢; exact f12 h)), (fun h => by first | exact f13 (by rwa [set_other (by decide)] at h) | (rw [set_other (by decide)] at h ⊢; exact f13 h)), (fun h => by first | exact f14 (by rwa [set_other (by decide)] at h) | (rw [set_other (by decide)] at h ⊢; exact f14 h)), (fun h => by first | exact f15 (by rwa [set_other (by decide)] at h) | (rw [set_other (by decide)] at h ⊢; exact f15 h))⟩
      · obtain rfl := f3 (ready_dep hr (d := 2) (by kernel_rfl))
        refine inv_op rfl (fun K hK => ?_)
        try simp only [Act.put, List.setIfInBounds_toArray, List.set_cons_zero, List.set_cons_succ]
        go_simp
        refine hK.out _ _ ⟨x4, x13, x14, .slice fA flows.length fk, .int .i64 (flows.length : Int), x17, x18, x19, x20, x21, x22, (by simp only [Act.put, List.setIfInBounds_toArray, List.set_cons_zero, List.set_cons_succ]), f0, (fun h => by first | exact f1 (by rwa [set_other (by decide)] at h) | (rw [set_other (by decide)] at h ⊢; exact f1 h)), (fun h => by first | exact f2 (by rwa [set_other (by decide)] at h) | (rw [set_other (by decide)] at h ⊢; exact f2 h)), (fun _ => rfl), (fun _ => rfl), (fun h => by first | exact f5 (by rwa [set_other (by decide)] at h) | (rw [set_other (by decide)] at h ⊢; exact f5 h)), (fun h => by first | exact f6 (by rwa [set_other (by decide)] at h) | (rw [set_other (by decide)] at h ⊢; exact f6 h)), (fun h => by first | exact f7 (by rwa [set_other (by decide)] at h) | (rw [set_other (by decide)] at h ⊢; exact f7 h)), (fun h => by first | exact f8 (by rwa [set_other (by decide)] at h) | (rw [set_other (by decide)] at h ⊢; exact f8 h)), (fun h => by first | exact f9 (by rwa [set_other (by decide)] at h) | (rw [set_other (by decide)] at h ⊢; exact f9 h)), (fun h => by first | exact f10 (by rwa [set_other (by decide)] at h) | (rw [set_other (by decide)] at h ⊢; exact f10 h)), (fun h => by rw [set_other (by decide)] at h ⊢; obtain ⟨b, e, hb, hB⟩ := f11 h; exact ⟨b, e, hb, hB⟩), (fun h => by first | exact f12 (by rwa [set_other (by decide)] at h) | (rw [set_other (by decide)] at h ⊢; exact f12 h)), (fun h => by first | exact f13 (by rwa [set_other (by decide)] at h) | (rw [set_other (by decide)] at h ⊢; exact f13 h)), (fun h => by first | exact f14 (by rwa [set_other (by decide)] at h) | (rw [set_other (by decide)] at h ⊢; exact f14 h)), (fun h => by first | exact f15 (by rwa [set_other (by decide)] at h) | (rw [set_other (by decide)] at h ⊢; exact f15 h))⟩
      · obtain rfl := f4 (ready_dep hr (d := 3) (by kernel_rfl))
        have h9 : L.getD 9 false = false := by
          cases hh : L.getD 9 false with
          | false => rfl
          | true => exact absurd (f14 hh) (by rw [ready_not hr]; decide)
        have h11 : L.getD 11 false = false := by
          cases hh : L.getD 11 false with
          | false => rfl
          | true => exact absurd (f14 (f13 hh)) (by rw [ready_not hr]; decide)
        refine inv_op rfl (fun K hK => ?_)
        try simp only [Act.put, List.setIfInBounds_toArray, List.set_cons_zero, List.set_cons_succ]
        go_simp
        refine hK.out _ _ ⟨x4, x13, x14, x15, .int .i64 (flows.length : Int), .slice (some ⟨w1z.heap.size, 0, none⟩) flows.length flows.length, x18, x19, x20, x21, x22, (by simp only [Act.put, List.setIfInBounds_toArray, List.set_cons_zero, List.set_cons_succ]), f0.alloc f0.size _, (fun h => by first | exact f1 (by rwa [set_other (by decide)] at h) | (rw [set_other (by decide)] at h ⊢; exact f1 h)), (fun h => by first | exact f2 (by rwa [set_other (by decide)] at h) | (rw [set_other (by decide)] at h ⊢; exact f2 h)), (fun h => by first | exact f3 (by rwa [set_other (by decide)] at h) | (rw [set_other (by decide)] at h ⊢; exact f3 h)), (fun _ => rfl), (fun _ => ⟨w1z.heap.size, rfl, f0.size, Blk.new _ _ _⟩), (fun h => by first | exact f6 (by rwa [set_other (by decide)] at h) | (rw [set_other (by decide)] at h ⊢; exact f6 h)), (fun h => by first | exact f7 (by rwa [set_other (by decide)] at h) | (rw [set_other (by decide)] at h ⊢; exact f7 h)), (fun h => by first | exact f8 (by rwa [set_other (by decide)] at h) | (rw [set_other (by decide)] at h ⊢; exact f8 h)), (fun h => by rw [set_other (by decide)] at h; obtain ⟨b, e, hb, hB⟩ := f9 h; exact ⟨b, e, hb, RowBlk.alloc hB _⟩), (fun h => absurd h (by rw [set_other (by decide), h9]; decide)), (fun h => by rw [set_other (by decide)] at h ⊢; obtain ⟨b, e, hb, hB⟩ := f11 h; rw [h11] at hB ⊢; exact ⟨b, e, hb, hB.alloc _⟩), (fun h => by first | exact f12 (by rwa [set_other (by decide)] at h) | (rw [set_other (by decide)] at h ⊢; exact f12 h)), (fun h => by first | exact f13 (by rwa [set_other (by decide)] at h) | (rw [set_other (by decide)] at h ⊢; exact f13 h)), (fun _ => set_self hr), (fun h => by first | exact f15 (by rwa [set_other (by decide)] at h) | (rw [set_other (by decide)] at h ⊢; exact f15 h))⟩
      · refine inv_op rfl (fun K hK => ?_)
        try simp only [Act.put, List.setIfInBounds_toArray, List.set_cons_zero, List.set_cons_succ]
        go_simp
        refine hK.out _ _ ⟨x4, x13, x14, x15, x16, x17, .pointer (some ⟨w.heap.size, 1, none⟩), x19, x20, x21, x22, (by simp only [Act.put, List.setIfInBounds_toArray, List.set_cons_zero, List.set_cons_succ]), f0, (fun h => by first | exact f1 (by rwa [set_other (by decide)] at h) | (rw [set_other (by decide)] at h ⊢; exact f1 h)), (fun h => by first | exact f2 (by rwa [set_other (by decide)] at h) | (rw [set_other (by decide)] at h ⊢; exact f2 h)), (fun h => by first | exact f3 (by rwa [set_other (by decide)] at h) | (rw [set_other (by decide)] at h ⊢; exact f3 h)), (fun h => by first | exact f4 (by rwa [set_other (by decide)] at h) | (rw [set_other (by decide)] at h ⊢; exact f4 h)), (fun h => by first | exact f5 (by rwa [set_other (by decide)] at h) | (rw [set_other (by decide)] at h ⊢; exact f5 h)), (fun _ => rfl), (fun h => by first | exact f7 (by rwa [set_other (by decide)] at h) | (rw [set_other (by decide)] at h ⊢; exact f7 h)), (fun h => by first | exact f8 (by rwa [set_other (by decide)] at h) | (rw [set_other (by decide)] at h ⊢; exact f8 h)), (fun h => by first | exact f9 (by rwa [set_other (by decide)] at h) | (rw [set_other (by decide)] at h ⊢; exact f9 h)), (fun h => by first | exact f10 (by rwa [set_other (by decide)] at h) | (rw [set_other (by decide)] at h ⊢; exact f10 h)), (fun h => by rw [set_other (by decide)] at h ⊢; obtain ⟨b, e, hb, hB⟩ := f11 h; exact ⟨b, e, hb, hB⟩), (fun h => by first | exact f12 (by rwa [set_other (by decide)] at h) | (rw [set_other (by decide)] at h ⊢; exact f12 h)), (fun h => by first | exact f13 (by rwa [set_other (by decide)] at h) | (rw [set_other (by decide)] at h ⊢; exact f13 h)), (fun h => by first | exact f14 (by rwa [set_other (by decide)] at h) | (rw [set_other (by decide)] at h ⊢; exact f14 h)), (fun h => by first | exact f15 (by rwa [set_other (by decide)] at h) | (rw [set_other (by decide)] at h ⊢; exact f15 h))⟩
      · obtain rfl := f6 (ready_dep hr (d := 5) (by kernel_rfl))
        have HH := HX1.out.new_ f0
        have n0 := HH.cell 0 (v := .slice cA caps.length ck) rfl
        have n1 := HH.cell 1 (v := .slice fA flows.length fk) rfl
        have l1 := HH.lt
        refine inv_op rfl (fun K hK => ?_)
        try simp only [Act.put, List.setIfInBounds_toArray, List.set_cons_zero, List.set_cons_succ]
        go_simp
        refine hK.out _ _ ⟨x4, x13, x14, x15, x16, x17, .pointer (some ⟨w.heap.size, 1, none⟩), .slice fA flows.length fk, x20, x21, x22, (by simp only [Act.put, List.setIfInBounds_toArray, List.set_cons_zero, List.set_cons_succ]), f0, (fun h => by first | exact f1 (by rwa [set_other (by decide)] at h) | (rw [set_other (by decide)] at h ⊢; exact f1 h)), (fun h => by first | exact f2 (by rwa [set_other (by decide)] at h) | (rw [set_other (by decide)] at h ⊢; exact f2 h)), (fun h => by first | exact f3 (by rwa [set_other (by decide)] at h) | (rw [set_other (by decide)] at h ⊢; exact f3 h)), (fun h => by first | exact f4 (by rwa [set_other (by decide)] at h) | (rw [set_other (by decide)] at h ⊢; exact f4 h)), (fun h => by first | exact f5 (by rwa [set_other (by decide)] at h) | (rw [set_other (by decide)] at h ⊢; exact f5 h)), (fun _ => rfl), (fun _ => rfl), (fun h => by first | exact f8 (by rwa [set_other (by decide)] at h) | (rw [set_other (by decide)] at h ⊢; exact f8 h)), (fun h => by first | exact f9 (by rwa [set_other (by decide)] at h) | (rw [set_other (by decide)] at h ⊢; exact f9 h)), (fun h => by first | exact f10 (by rwa [set_other (by decide)] at h) | (rw [set_other (by decide)] at h ⊢; exact f10 h)), (fun h => by rw [set_other (by decide)] at h ⊢; obtain ⟨b, e, hb, hB⟩ := f11 h; exact ⟨b, e, hb, hB⟩), (fun h => by first | exact f12 (by rwa [set_other (by decide)] at h) | (rw [set_other (by decide)] at h ⊢; exact f12 h)), (fun h => by first | exact f13 (by rwa [set_other (by decide)] at h) | (rw [set_other (by decide)] at h ⊢; exact f13 h)), (fun h => by first | exact f14 (by rwa [set_other (by decide)] at h) | (rw [set_other (by decide)] at h ⊢; exact f14 h)), (fun h => by first | exact f15 (by rwa [set_other (by decide)] at h) | (rw [set_other (by decide)] at h ⊢; exact f15 h))⟩
      · obtain rfl := f7 (ready_dep hr (d := 6) (by kernel_rfl))
        refine inv_op rfl (fun K hK => ?_)
        try simp only [Act.put, List.setIfInBounds_toArray, List.set_cons_zero, List.set_cons_succ]
        go_simp
        refine hK.out _ _ ⟨x4, x13, x14, x15, x16, x17, x18, .slice fA flows.length fk, .int .i64 (flows.length : Int), x21, x22, (by simp only [Act.put, List.setIfInBounds_toArray, List.set_cons_zero, List.set_cons_succ]), f0, (fun h => by first | exact f1 (by rwa [set_other (by decide)] at h) | (rw [set_other (by decide)] at h ⊢; exact f1 h)), (fun h => by first | exact f2 (by rwa [set_other (by decide)] at h) | (rw [set_other (by decide)] at h ⊢; exact f2 h)), (fun h => by first | exact f3 (by rwa [set_other (by decide)] at h) | (rw [set_other (by decide)] at h ⊢; exact f3 h)), (fun h => by first | exact f4 (by rwa [set_other (by decide)] at h) | (rw [set_other (by decide)] at h ⊢; exact f4 h)), (fun h => by first | exact f5 (by rwa [set_other (by decide)] at h) | (rw [set_other (by decide)] at h ⊢; exact f5 h)), (fun h => by first | exact f6 (by rwa [set_other (by decide)] at h) | (rw [set_other (by decide)] at h ⊢; exact f6 h)), (fun _ => rfl), (fun _ => rfl), (fun h => by first | exact f9 (by rwa [set_other (by decide)] at h) | (rw [set_other (by decide)] at h ⊢; exact f9 h)), (fun h => by first | exact f10 (by rwa [set_other (by decide)] at h) | (rw [set_other (by decide)] at h ⊢; exact f10 h)), (fun h => by rw [set_other (by decide)] at h ⊢; obtain ⟨b, e, hb, hB⟩ := f11 h; exact ⟨b, e, hb, hB⟩), (fun h => by first | exact f12 (by rwa [set_other (by decide)] at h) | (rw [set_other (by decide)] at h ⊢; exact f12 h)), (fun h => by first | exact f13 (by rwa [set_other (by decide)] at h) | (rw [set_other (by decide)] at h ⊢; exact f13 h)), (fun h => by first | exact f14 (by rwa [set_other (by decide)] at h) | (rw [set_other (by decide)] at h ⊢; exact f14 h)), (fun h => by first | exact f15 (by rwa [set_other (by decide)] at h) | (rw [set_other (by decide)] at h ⊢; exact f15 h))⟩
      · obtain rfl := f8 (ready_dep hr (d := 7) (by kernel_rfl))
        have h9 : L.getD 9 false = false := by
          cases hh : L.getD 9 false with
          | false => rfl
          | true => exact absurd (f15 hh) (by rw [ready_not hr]; decide)
        have h11 : L.getD 11 false = false := by
          cases hh : L.getD 11 false with
          | false => rfl
          | true => exact absurd (f15 (f13 hh)) (by rw [ready_not hr]; decide)
        refine inv_op rfl (fun K hK => ?_)
        try simp only [Act.put, List.setIfInBounds_toArray, List.set_cons_zero, List.set_cons_succ]
        go_simp
        refine hK.out _ _ ⟨x4, x13, x14, x15, x16, x17, x18, x19, .int .i64 (flows.length : Int), .slice (some ⟨w1z.heap.size, 0, none⟩) flows.length flows.length, x22, (by simp only [Act.put, List.setIfInBounds_toArray, List.set_cons_zero, List.set_cons_succ]), f0.alloc f0.size _, (fun h => by first | exact f1 (by rwa [set_other (by decide)] at h) | (rw [set_other (by decide)] at h ⊢; exact f1 h)), (fun h => by first | exact f2 (by rwa [set_other (by decide)] at h) | (rw [set_other (by decide)] at h ⊢; exact f2 h)), (fun h => by first | exact f3 (by rwa [set_other (by decide)] at h) | (rw [set_other (by decide)] at h ⊢; exact f3 h)), (fun h => by first | exact f4 (by rwa [set_other (by decide)] at h) | (rw [set_other (by decide)] at h ⊢; exact f4 h)), (fun h => by rw [set_other (by decide)] at h; obtain ⟨b, e, hb, hB⟩ := f5 h; exact ⟨b, e, hb, RowBlk.alloc hB _⟩), (fun h => by first | exact f6 (by rwa [set_other (by decide)] at h) | (rw [set_other (by decide)] at h ⊢; exact f6 h)), (fun h => by first | exact f7 (by rwa [set_other (by decide)] at h) | (rw [set_other (by decide)] at h ⊢; exact f7 h)), (fun _ => rfl), (fun _ => ⟨w1z.heap.size, rfl, f0.size, Blk.new _ _ _⟩), (fun h => absurd h (by rw [set_other (by decide), h9]; decide)), (fun h => by rw [set_other (by decide)] at h ⊢; obtain ⟨b, e, hb, hB⟩ := f11 h; rw [h11] at hB ⊢; exact ⟨b, e, hb, hB.alloc _⟩), (fun h => by first | exact f12 (by rwa [set_other (by decide)] at h) | (rw [set_other (by decide)] at h ⊢; exact f12 h)), (fun h => by first | exact f13 (by rwa [set_other (by decide)] at h) | (rw [set_other (by decide)] at h ⊢; exact f13 h)), (fun h => by first | exact f14 (by rwa [set_other (by decide)] at h) | (rw [set_other (by decide)] at h ⊢; exact f14 h)), (fun _ => set_self hr)⟩
      · obtain ⟨b1, e1, hb1, hB1⟩ := f5 (ready_dep hr (d := 4) (by kernel_rfl))
        obtain ⟨b2, e2, hb2, hB2⟩ := f9 (ready_dep hr (d := 8) (by kernel_rfl))
        have d4 := ready_dep hr (d := 4) (by kernel_rfl)
        have d8 := ready_dep hr (d := 8) (by kernel_rfl)
        subst e1 e2
        obtain rfl := f1 (ready_dep hr (d := 0) (by kernel_rfl))
        have h11 : L.getD 11 false = false := by
          cases hh : L.getD 11 false with
          | false => rfl
          | true => exact absurd (f13 hh) (by rw [ready_not hr]; decide)
        refine inv_op rfl (fun K hK => ?_)
        try simp only [Act.put, List.setIfInBounds_toArray, List.set_cons_zero, List.set_cons_succ]
        go_simp
        refine hK.out _ _ ⟨x4, .agg #[.slice cA caps.length ck, .slice fA flows.length fk], x14, x15, x16, (.slice (some ⟨b1, 0, none⟩) flows.length flows.length), x18, x19, x20, (.slice (some ⟨b2, 0, none⟩) flows.length flows.length), .agg #[.slice cA caps.length ck, .slice fA flows.length fk, .slice (some ⟨b1, 0, none⟩) flows.length flows.length, .slice (some ⟨b2, 0, none⟩) flows.length flows.length], (by simp only [Act.put, List.setIfInBounds_toArray, List.set_cons_zero, List.set_cons_succ]), f0, (fun _ => rfl), (fun h => by first | exact f2 (by rwa [set_other (by decide)] at h) | (rw [set_other (by decide)] at h ⊢; exact f2 h)), (fun h => by first | exact f3 (by rwa [set_other (by decide)] at h) | (rw [set_other (by decide)] at h ⊢; exact f3 h)), (fun h => by first | exact f4 (by rwa [set_other (by decide)] at h) | (rw [set_other (by decide)] at h ⊢; exact f4 h)), (fun _ => ⟨b1, rfl, hb1, hB1⟩), (fun h => by first | exact f6 (by rwa [set_other (by decide)] at h) | (rw [set_other (by decide)] at h ⊢; exact f6 h)), (fun h => by first | exact f7 (by rwa [set_other (by decide)] at h) | (rw [set_other (by decide)] at h ⊢; exact f7 h)), (fun h => by first | exact f8 (by rwa [set_other (by decide)] at h) | (rw [set_other (by decide)] at h ⊢; exact f8 h)), (fun _ => ⟨b2, rfl, hb2, hB2⟩), (fun _ => rfl), (fun h => by rw [set_other (by decide)] at h ⊢; obtain ⟨b, e, hb, hB⟩ := f11 h; rw [h11] at hB ⊢; exact ⟨b, e, hb, hB⟩), (fun h => by first | exact f12 (by rwa [set_other (by decide)] at h) | (rw [set_other (by decide)] at h ⊢; exact f12 h)), (fun _ => set_self hr), (fun _ => by rw [set_other (by decide)]; exact d4), (fun _ => by rw [set_other (by decide)]; exact d8)⟩
      · have h11 : L.getD 11 false = false := by
          cases hh : L.getD 11 false with
          | false => rfl
          | true => exact absurd (f12 hh) (by rw [ready_not hr]; decide)
        refine inv_op rfl (fun K hK => ?_)
        try simp only [Act.put, List.setIfInBounds_toArray, List.set_cons_zero, List.set_cons_succ]
        go_simp
        refine hK.out _ _ ⟨.pointer (some ⟨w1z.heap.size, 0, none⟩), x13, x14, x15, x16, x17, x18, x19, x20, x21, x22, (by simp only [Act.put, List.setIfInBounds_toArray, List.set_cons_zero, List.set_cons_succ]), f0.alloc f0.size _, (fun h => by first | exact f1 (by rwa [set_other (by decide)] at h) | (rw [set_other (by decide)] at h ⊢; exact f1 h)), (fun h => by first | exact f2 (by rwa [set_other (by decide)] at h) | (rw [set_other (by decide)] at h ⊢; exact f2 h)), (fun h => by first | exact f3 (by rwa [set_other (by decide)] at h) | (rw [set_other (by decide)] at h ⊢; exact f3 h)), (fun h => by first | exact f4 (by rwa [set_other (by decide)] at h) | (rw [set_other (by decide)] at h ⊢; exact f4 h)), (fun h => by rw [set_other (by decide)] at h; obtain ⟨b, e, hb, hB⟩ := f5 h; exact ⟨b, e, hb, RowBlk.alloc hB _⟩), (fun h => by first | exact f6 (by rwa [set_other (by decide)] at h) | (rw [set_other (by decide)] at h ⊢; exact f6 h)), (fun h => by first | exact f7 (by rwa [set_other (by decide)] at h) | (rw [set_other (by decide)] at h ⊢; exact f7 h)), (fun h => by first | exact f8 (by rwa [set_other (by decide)] at h) | (rw [set_other (by decide)] at h ⊢; exact f8 h)), (fun h => by rw [set_other (by decide)] at h; obtain ⟨b, e, hb, hB⟩ := f9 h; exact ⟨b, e, hb, RowBlk.alloc hB _⟩), (fun h => by first | exact f10 (by rwa [set_other (by decide)] at h) | (rw [set_other (by decide)] at h ⊢; exact f10 h)), (fun _ => ⟨w1z.heap.size, rfl, f0.size, by rw [set_other (by decide), h11]; exact Blk.new _ _ _⟩), (fun h => set_self hr), (fun h => by first | exact f13 (by rwa [set_other (by decide)] at h) | (rw [set_other (by decide)] at h ⊢; exact f13 h)), (fun h => by first | exact f14 (by rwa [set_other (by decide)] at h) | (rw [set_other (by decide)] at h ⊢; exact f14 h)), (fun h => by first | exact f15 (by rwa [set_other (by decide)] at h) | (rw [set_other (by decide)] at h ⊢; exact f15 h))⟩
      · have h11 := ready_not hr
        have ha := ready_dep hr (d := 10) (by kernel_rfl)
        have h9 := ready_dep hr (d := 9) (by kernel_rfl)
        obtain ⟨b, eb, hb, hB⟩ := f11 ha
        rw [h11] at hB
        obtain ⟨b1, e1, hb1, hB1⟩ := f5 (f14 h9)
        obtain ⟨b2, e2, hb2, hB2⟩ := f9 (f15 h9)
        have e9 := f10 h9
        have ne1 : b1 ≠ b := Blk.ne_ hB1 hB (by decide)
        have ne2 : b2 ≠ b := Blk.ne_ hB2 hB (by decide)
        have q0 := hB.cell 0 (v := .slice none 0 0) rfl
        have q1 := hB.cell 1 (v := .slice none 0 0) rfl
        have q2 := hB.cell 2 (v := .slice none 0 0) rfl
        have q3 := hB.cell 3 (v := .slice none 0 0) rfl
        have p0 := hB.free 0
        have p1 := hB.free 1
        have p2 := hB.free 2
        have p3 := hB.free 3
        have q9 := hB.lt
        subst e1 e2
        subst e9
        subst eb
        refine inv_op rfl (fun K hK => ?_)
        try simp only [Act.put, List.setIfInBounds_toArray, List.set_cons_zero, List.set_cons_succ]
        go_simp
        refine hK.out _ _ ⟨(.pointer (some ⟨b, 0, none⟩)), x13, x14, x15, x16, (.slice (some ⟨b1, 0, none⟩) flows.length flows.length), x18, x19, x20, (.slice (some ⟨b2, 0, none⟩) flows.length flows.length), (.agg #[.slice cA caps.length ck, .slice fA flows.length fk, .slice (some ⟨b1, 0, none⟩) flows.length flows.length, .slice (some ⟨b2, 0, none⟩) flows.length flows.length]), (by simp only [Act.put, List.setIfInBounds_toArray, List.set_cons_zero, List.set_cons_succ]), ((((f0.setCell hb _).setCell hb _).setCell hb _).setCell hb _), (fun h => by first | exact f1 (by rwa [set_other (by decide)] at h) | (rw [set_other (by decide)] at h ⊢; exact f1 h)), (fun h => by first | exact f2 (by rwa [set_other (by decide)] at h) | (rw [set_other (by decide)] at h ⊢; exact f2 h)), (fun h => by first | exact f3 (by rwa [set_other (by decide)] at h) | (rw [set_other (by decide)] at h ⊢; exact f3 h)), (fun h => by first | exact f4 (by rwa [set_other (by decide)] at h) | (rw [set_other (by decide)] at h ⊢; exact f4 h)), (fun _ => ⟨b1, rfl, hb1, (((hB1.far ne1 _).far ne1 _).far ne1 _).far ne1 _⟩), (fun h => by first | exact f6 (by rwa [set_other (by decide)] at h) | (rw [set_other (by decide)] at h ⊢; exact f6 h)), (fun h => by first | exact f7 (by rwa [set_other (by decide)] at h) | (rw [set_other (by decide)] at h ⊢; exact f7 h)), (fun h => by first | exact f8 (by rwa [set_other (by decide)] at h) | (rw [set_other (by decide)] at h ⊢; exact f8 h)), (fun _ => ⟨b2, rfl, hb2, (((hB2.far ne2 _).far ne2 _).far ne2 _).far ne2 _⟩), (fun _ => rfl), (fun _ => ⟨b, rfl, hb, by rw [set_self hr]; exact (((hB.set_ 0 _).set_ 1 _).set_ 2 _).to 3 _ rfl⟩), (fun _ => by rw [set_other (by decide)]; exact ha), (fun _ => by rw [set_other (by decide)]; exact h9), (fun h => by first | exact f14 (by rwa [set_other (by decide)] at h) | (rw [set_other (by decide)] at h ⊢; exact f14 h)), (fun h => by first | exact f15 (by rwa [set_other (by decide)] at h) | (rw [set_other (by decide)] at h ⊢; exact f15 h))⟩
    case done =>
      intro L az w1z hI hall
      obtain ⟨x4, x13, x14, x15, x16, x17, x18, x19, x20, x21, x22, rfl, f0, f1, f2, f3, f4, f5, f6, f7, f8, f9, f10, f11, f12, f13, f14, f15⟩ := hI
      subst haq
      simp only [Act.put, List.setIfInBounds_toArray, List.set_cons_zero, List.set_cons_succ]
      go_wp2_with fail
      go_meet
      obtain ⟨b1, e1, hb1, hB1⟩ := f5 (hall 4 (by decide))
      obtain ⟨b2, e2, hb2, hB2⟩ := f9 (hall 8 (by decide))
      obtain ⟨b, eb, hb, hB⟩ := f11 (hall 10 (by decide))
      rw [hall 11 (by decide), e1, e2] at hB
      have hlt := HX1.out.lt
      exact ⟨b, b1, b2, eb, ⟨HX1.out.new_ f0, join HD1.out f0, ⟨hB, HN.out.keep (B' := w.heap.size) (fun p hp => (join HD1.out f0).cell hp), hB1, hB2, List.length_replicate, List.length_replicate, by omega, fun r hr => by rw [List.eq_of_mem_replicate hr]; unfold R64; dsimp only; omega⟩, by omega, by omega, by omega⟩⟩
  case rest =>
    obtain ⟨g, gr, gz, rfl, HX⟩ := hcut
    obtain ⟨b0, hb0⟩ : ∃ b, b = wc.heap.size := ⟨_, rfl⟩
    have HG : Kept (GB w wc g gr gz b0 ⟨caps, cA, ck, flows, fA, fk⟩ (itr ⟨caps, cA, ck, flows, fA, fk⟩ 0).1 (itr ⟨caps, cA, ck, flows, fA, fk⟩ 0).2 (.slice none 0 0) []) := ⟨⟨HX.out.1, HX.out.2.2.1, HX.out.2.1, ⟨HX.out.2.2.2.1, HX.out.2.2.2.2.1, HX.out.2.2.2.2.2, by rw [hb0]; exact HX.out.2.2.1.box.lt, by rw [hb0]; exact HX.out.2.2.1.rr.lt, by rw [hb0]; exact HX.out.2.2.1.rz.lt⟩, World.ownsRow_nil _ _ _ _, (fun p hp => by cases hp), by omega⟩⟩
    clear HX hb0 HX1 HD1 n2 n3 l1 HX0 HD0 HNN hmkR hmkB
    go_wp2_with fail
    go_loopg [5] flows.length (fun gk v5 wr => ∃ (lv : List PLev) (A : Option Addr) (kap : Nat), gk = flows.length - lv.length ∧ v5 = .slice A lv.length kap ∧ Kept (GB w wr g gr gz b0 ⟨caps, cA, ck, flows, fA, fk⟩ (itr ⟨caps, cA, ck, flows, fA, fk⟩ lv.length).1 (itr ⟨caps, cA, ck, flows, fA, fk⟩ lv.length).2 (.slice A lv.length kap) lv) ∧ Kept (LevsOf ⟨caps, cA, ck, flows, fA, fk⟩ lv) ∧ Kept (∀ j, j < lv.length → (itr ⟨caps, cA, ck, flows, fA, fk⟩ j).2.contains false = true))
    case atStart => exact ⟨[], none, 0, rfl, rfl, HG, ⟨fun j p h => by simp at h⟩, ⟨fun j h => by simp at h⟩⟩
    case round =>
      clear HG
      obtain ⟨lv, A, kap, rfl, rfl, HG, HLV, HPR⟩ := hrel
      have HST := Kept.mk (itr_ok HOK.out lv.length HPR.out)
      obtain ⟨rs, hrs⟩ : ∃ rs, rs = (itr ⟨caps, cA, ck, flows, fA, fk⟩ lv.length).1 := ⟨_, rfl⟩
      obtain ⟨fz, hfz⟩ : ∃ fz, fz = (itr ⟨caps, cA, ck, flows, fA, fk⟩ lv.length).2 := ⟨_, rfl⟩
      rw [← hrs, ← hfz] at HG HST
      have HRS := Kept.mk hrs
      have HFZ := Kept.mk hfz
      clear hrs hfz
      have n0 := HG.out.st.box.cell 0 rfl
      have n1 := HG.out.st.box.cell 1 rfl
      have n2 := HG.out.st.box.cell 2 rfl
      have n3 := HG.out.st.box.cell 3 rfl
      dsimp only at n0 n1 n2 n3
      have lg := HG.out.st.box.lt
      have hzl : fz.length = flows.length := HG.out.st.lz
      have CB := fun w h => containsB_c fz (some ⟨gz, 0, none⟩) flows.length w h (by omega)
      rw [hzl] at CB
      have HZL := Kept.mk hzl
      clear hzl
      cases hc : fz.contains false with
      | false =>
        have HC := Kept.mk hc
        clear hc
        go_wp2_with (go_at_call 54; refine (CB _ (HG.out.st.rz.rows boolc_len (by omega) HG.out.st.rz.lt)).mono ?_; rintro e wq ⟨rfl, rfl⟩; rw [HC.out])
        go_ret2
        exact ⟨lv, A, kap, rfl, RowsAt.of_own HG.out.own vcell_len (by omega) rfl, own_cap HG.out.own, fun p hp => ⟨RowsAt.of_own (HG.out.sub p hp) icell_len (by omega) rfl, own_cap (HG.out.sub p hp)⟩, HLV.out, HPR.out, by rw [← HFZ.out]; exact HC.out, HG.out.blw⟩
      | true =>
        have HC := Kept.mk hc
        have hm4 := level_few HOK.out HST.out hc
        have hmn : lv.length + 1 ≤ flows.length := by
          obtain ⟨i, hi, h1⟩ := open_of HZL.out hc
          have h2 := tr_open hi h1
          have h3 := HST.out.many
          dsimp only at h3
          omega
        obtain ⟨W0, hW0⟩ : ∃ b, b = w.heap.size := ⟨_, rfl⟩
        have LV := fun w h => level_c ⟨caps, cA, ck, flows, fA, fk⟩ W0 g gr gz (DD lv.length) 108 (MM lv.length) rs fz w h (by have := HOK.out.nl; dsimp only at this ⊢; omega) hf5 (fun c hcc => ⟨(HOK.out.cap c hcc).1, (HOK.out.cap c hcc).2.1.to (dd_12 (by omega)).1⟩) HST.out.rates (dd_12 (by omega)).2.1 (by have := (dd_12 (m := lv.length) (by omega)).2.2; omega) (mm_small hm4).1 (fun l hl hu => cand_sm HOK.out HST.out hm4 hl hu) (fun p hp => (HOK.out.lk p hp).2)
        obtain ⟨R, hR⟩ : ∃ R, R = rateQ ⟨caps, cA, ck, flows, fA, fk⟩ fz rs := ⟨_, rfl⟩
        obtain ⟨fl, hfl⟩ : ∃ fl, fl = frzL ⟨caps, cA, ck, flows, fA, fk⟩ fz rs flows.length := ⟨_, rfl⟩
        have hR64 : R64 R.n ∧ R64 R.d := by rw [hR]; exact okQ_R64 (rate_good HOK.out HST.out hm4).1
        have HIT : Kept (itr ⟨caps, cA, ck, flows, fA, fk⟩ (lv.length + 1) = (putR R rs fl, putF fz fl)) := ⟨by rw [itr, stepS, ← HRS.out, ← HFZ.out, hR, hfl]⟩
        have hfl5 : fl.length ≤ 5 := by rw [hfl]; exact Nat.le_trans (frzL_len _ _ _ _) hf5
        dsimp only at LV
        rw [← hR, ← hfl, hW0] at LV
        clear hW0
        have HRE := Kept.mk hR
        have HFE := Kept.mk hfl
        clear hc hR hfl
        go_upto_region 7 with (first | (go_at_call 54; refine (CB _ (HG.out.st.rz.rows boolc_len (by omega) HG.out.st.rz.lt)).mono ?_; rintro e wq ⟨rfl, rfl⟩; rw [HC.out]) | (go_at_call 55; refine (LV _ HG.out.st).mono ?_; rintro e w2 ⟨A6, k6, rfl, ho6, hb6⟩; have HG2 := Kept.mk (HG.out.new_ hb6); have HO6 := Kept.mk (own_base ho6 HG.out.hs); clear ho6 hb6))
        obtain ⟨V, hV, HL⟩ : ∃ V, V = w2.alloc (.cells #[.int .i64 R.n, .int .i64 R.d, .slice A6 fl.length k6] 68) ∧ Kept (GL w V g gr gz b0 ⟨caps, cA, ck, flows, fA, fk⟩ (putR R rs (fl.take 0)) (putF fz (fl.take 0)) (.slice A lv.length kap) lv w2.heap.size ⟨R, fl, A6, k6⟩) := ⟨_, rfl, ⟨HG2.out.alloc _, Blk.new _ _ _, own_new HO6.out ((Below.refl _ _).alloc (Nat.le_refl _) _), HG2.out.hs⟩⟩
        obtain ⟨b6, hb6⟩ : ∃ b, b = w2.heap.size := ⟨_, rfl⟩
        rw [← hV, ← hb6]
        rw [← hb6] at HL
        clear hV hb6 HG2 HO6 HG n0 n1 n2 n3 lg LV CB
        have q2 := HL.out.bx.cell 2 (v := .slice A6 fl.length k6) rfl
        have q3 := HL.out.bx.lt
        go_wp2_with fail
        go_loopw [36] (fun v wr => ∃ j : Nat, j ≤ fl.length ∧ v = .int .i64 j ∧ Kept (GL w wr g gr gz b0 ⟨caps, cA, ck, flows, fA, fk⟩ (putR R rs (fl.take j)) (putF fz (fl.take j)) (.slice A lv.length kap) lv b6 ⟨R, fl, A6, k6⟩)) (fun v _ => fl.length - (intOf v).toNat)
        case atStart => exact ⟨0, Nat.zero_le _, rfl, HL⟩
        case round =>
          clear HL q2 q3
          obtain ⟨j, hj, rfl, HL⟩ := hrel
          by_cases hlt : j < fl.length
          · obtain ⟨xi, bL, oL, hx, rfl, -, hbL, hcl⟩ := (RowsAt.of_own HL.out.sub icell_len (by omega) rfl).at_ hlt
            have c0 := hcl 0 (.int .i64 xi) rfl
            dsimp only at hx
            have hmem := List.mem_of_getElem? hx
            rw [HFE.out] at hmem
            obtain ⟨i, rfl, hi, -, -⟩ := frzL_mem.1 hmem
            simp only [Nat.add_zero, Nat.mul_one] at c0
            have HTK := Kept.mk (take_next hx)
            obtain ⟨r, hr, r0, r1, -⟩ := HL.out.gb.st.rate hi
            obtain ⟨zb, hzb, z0⟩ := HL.out.gb.st.frozen hi
            have n2 := HL.out.gb.st.box.cell 2 rfl
            have n3 := HL.out.gb.st.box.cell 3 rfl
            dsimp only at n2 n3
            have q0 := HL.out.bx.cell 0 (v := .int .i64 R.n) rfl
            have q1 := HL.out.bx.cell 1 (v := .int .i64 R.d) rfl
            have rf0 := HL.out.gb.st.rr.free (i * 2)
            have rf1 := HL.out.gb.st.rr.free (i * 2 + 1)
            have zf := HL.out.gb.st.rz.free i
            have rl := HL.out.gb.st.rr.lt
            have zl := HL.out.gb.st.rz.lt
            have hne : gr ≠ gz := Blk.ne_ HL.out.gb.st.rr HL.out.gb.st.rz (by decide)
            clear hcl hx hmem hr hzb
            go_wp2_with fail
            go_roundw
            case rel => exact ⟨j + 1, by omega, by go_num, by rw [HTK.out, putR_snoc, putF_snoc, Int.toNat_natCast]; exact ⟨HL.out.put hi hR64⟩⟩
            case measure => simp [intOf]; omega
          · obtain rfl : j = fl.length := by omega
            rw [List.take_length] at HL
            have q0 := HL.out.bx.cell 0 (v := .int .i64 R.n) rfl
            have q1 := HL.out.bx.cell 1 (v := .int .i64 R.d) rfl
            have q2 := HL.out.bx.cell 2 (v := .slice A6 fl.length k6) rfl
            have q3 := HL.out.bx.lt
            obtain ⟨i4, hi4, hz0, hz1, hz2⟩ := info_parts infoL
            have HOA := Kept.mk (HL.out.alloc (.cells #[.int .i64 R.n, .int .i64 R.d, .slice A6 fl.length k6] 68))
            have HRL := Kept.mk (reads_made wr #[.int .i64 R.n, .int .i64 R.d, .slice A6 fl.length k6] 68 3 1 rfl)
            have hb0s := HL.out.gb.hs
            clear hlt
            go_wp2_with (at_builtin; refine wpList_append_any _ rfl _ _ _ rfl b0 68 i4 _ 3 40 Try.underlying64 hi4 hz0 hz1 hz2 rfl (by omega) _ lv.length _ rfl HOA.out.gb.own _ _ 1 1 _ rfl HRL.out (fun u hu => by simp at hu; rcases hu with rfl | rfl | rfl <;> rfl) (by unfold maxLen; omega) (by omega) (by simp only [World.size_alloc]; omega) ?_; intro v' w9 ho hgw hat; obtain ⟨A2, k2, rfl⟩ := own_slice ho; have HO9 := Kept.mk ho; have HG9 := Kept.mk hgw; clear ho hgw hat)
            have HN := Kept.mk (GB.grow (p := ⟨R, fl, A6, k6⟩) HOA.out.gb HOA.out.sub HO9.out HG9.out)
            go_roundg (flows.length - (lv.length + 1))
            case measure => omega
            case rel =>
              refine ⟨lv ++ [⟨R, fl, A6, k6⟩], A2, k2, by rw [List.length_append]; rfl, by rw [List.length_append]; rfl, ?_, ⟨fun q p hp => ?_⟩, ⟨fun q hq => ?_⟩⟩
              · have e : (lv ++ [(⟨R, fl, A6, k6⟩ : PLev)]).length = lv.length + 1 := by rw [List.length_append]; rfl
                rw [e, HIT.out]
                exact HN
              · by_cases hql : q < lv.length
                · rw [List.getElem?_append_left hql] at hp
                  exact HLV.out q p hp
                · have hq1 := (List.getElem?_eq_some_iff.1 hp).1
                  rw [List.length_append, List.length_singleton] at hq1
                  obtain rfl : q = lv.length := by omega
                  rw [List.getElem?_append_right (by omega), Nat.sub_self] at hp
                  injection hp with hp
                  rw [← hp, ← HRS.out, ← HFZ.out]
                  exact ⟨HRE.out, HFE.out⟩
              · rw [List.length_append, List.length_singleton] at hq
                by_cases hql : q < lv.length
                · exact HPR.out q hql
                · obtain rfl : q = lv.length := by omega
                  rw [← HFZ.out]
                  exact HC.out
end Go.Proofs.Ytjalegdfofogcaa
