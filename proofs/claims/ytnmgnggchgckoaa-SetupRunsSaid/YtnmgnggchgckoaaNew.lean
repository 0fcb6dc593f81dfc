/- Setup: the walks of slices.Clone at both element types, and of New (printed by gen_new.py). -/
import Derived.Test.YtnmgnggchgckoaaRep
import Derived.Deep.OwnRows
namespace Go.Proofs.Ytnmgnggchgckoaa
set_option linter.unusedVariables false
set_option linter.unusedSimpArgs false
open Go.RowKit
theorem info3 : (Try.prog.info? 3).map (fun i => (i.zero, i.size, i.bytes)) = some (some (.int .i64 0), 1, 8) := by kernel_rfl
def Clones (w : World) (e sz n : Nat) (xs : List Value) (r : Ending) (w' : World) : Prop :=
  ∃ v, r = .returned v ∧ w'.ownsRow w.heap.size e sz v n xs ∧ Below w.heap.size w w'
theorem own_form {w : World} {B e n : Nat} {v : Value} {xs : List Value} (h : w.ownsRow B e 1 v n xs) (hn : 0 < n) : ∃ R kap cur, v = .slice (some ⟨R, 0, none⟩) n kap ∧ B ≤ R ∧ Blk w R e cur ∧ n ≤ kap ∧ kap ≤ maxLen ∧ cur.toList.take n = xs := by
  rcases h.2 with ⟨_, h2⟩ | ⟨g, cap, cur, rfl, h2, h3, h4, h5, h6, h7⟩
  · omega
  · exact ⟨g, cap, cur, rfl, h2, h3, h4, h5, by simpa using h7⟩
theorem undrew {B : Nat} {w w1 : World} (h : Below B w.drew w1) : Below B w w1 := ⟨h.os, h.tape, h.output, h.size, h.block⟩
theorem reads_nil {w : World} {B sz n : Nat} {xs : List Value} (h : Reads w B sz none n xs) : n = 0 ∧ xs = [] := by
  rcases Nat.eq_zero_or_pos n with h0 | h0
  · subst h0; exact ⟨rfl, List.eq_nil_of_length_eq_zero (by simpa using h.1)⟩
  · obtain ⟨ad, h1, _⟩ := h.2 h0; cases h1
set_option maxHeartbeats 1000000 in
theorem cloneI_c (A : Option Addr) (n kap : Nat) (xs : List Value) (w : World) (B : Nat) (h : Reads w B 1 A n xs) (hB : B ≤ w.heap.size) (h1 : ∀ u ∈ xs, u.oneCell' = true) (hn : n ≤ 1000000) :
    Calls Try.prog 31 #[.slice A n kap] w (Clones w 3 1 n xs) := by
  obtain ⟨i0, hi0, hz0, hz1, hz2⟩ := info_parts info3
  rcases A with _ | ad
  · obtain ⟨rfl, rfl⟩ := reads_nil h
    have hq := fun (w : World) => Lib.run_eql_slice_nil w 22 3 none 0 kap 0 0 Try.underlying22
    simp only [Option.isNone] at hq
    go_enter Try.func31, Try.ntmps31
    go_wp2_with fail
    go_ret
    exact ⟨_, rfl, World.ownsRow_nil _ _ _ _, Below.refl _ _⟩
  · have hq := fun (w : World) => Lib.run_eql_slice_nil w 22 3 (some ad) n kap 0 0 Try.underlying22
    simp only [Option.isNone] at hq
    have HR := Kept.mk (h.alloc hB (.cells #[] 3))
    have HO := Kept.mk (World.ownsRow_lit (base := w.heap.size) (e := 3) (size := 1) w #[] 0 (Nat.le_refl _) (by unfold maxLen; omega) rfl)
    have HL := Kept.mk h1
    clear h h1 hB
    go_enter Try.func31, Try.ntmps31
    go_wp2_with (at_builtin; refine wpList_append_any _ rfl _ _ _ rfl w.heap.size 3 i0 _ 1 8 Try.underlying22 hi0 hz0 hz1 hz2 rfl (by omega) _ 0 _ rfl HO.out B (some ad) n kap xs rfl HR.out HL.out (by unfold maxLen; omega) (by omega) (by simp) ?_; intro v' w2 ho hg hat)
    go_ret
    refine ⟨v', rfl, by simpa using ho, ((Below.refl _ _).alloc (Nat.le_refl _) _).grown hg (by simp) (fun k hk => ?_)⟩
    exact (HO.out.lt k hk).1
set_option maxHeartbeats 1000000 in
theorem cloneM_c (A : Option Addr) (n kap : Nat) (xs : List Value) (w : World) (B : Nat) (h : Reads w B 3 A n xs) (hB : B ≤ w.heap.size) (h1 : ∀ u ∈ xs, u.oneCell' = true) (hn : n ≤ 1000000) :
    Calls Try.prog 38 #[.slice A n kap] w (Clones w 38 3 n xs) := by
  obtain ⟨i0, hi0, hz0, hz1, hz2⟩ := info_parts info38
  rcases A with _ | ad
  · obtain ⟨rfl, rfl⟩ := reads_nil h
    have hq := fun (w : World) => Lib.run_eql_slice_nil w 30 38 none 0 kap 0 0 Try.underlying30
    simp only [Option.isNone] at hq
    go_enter Try.func38, Try.ntmps38
    go_wp2_with fail
    go_ret
    exact ⟨_, rfl, World.ownsRow_nil _ _ _ _, Below.refl _ _⟩
  · have hq := fun (w : World) => Lib.run_eql_slice_nil w 30 38 (some ad) n kap 0 0 Try.underlying30
    simp only [Option.isNone] at hq
    have HR := Kept.mk (h.alloc hB (.cells #[] 38))
    have HO := Kept.mk (World.ownsRow_lit (base := w.heap.size) (e := 38) (size := 3) w #[] 0 (Nat.le_refl _) (by unfold maxLen; omega) rfl)
    have HL := Kept.mk h1
    clear h h1 hB
    go_enter Try.func38, Try.ntmps38
    go_wp2_with (at_builtin; refine wpList_append_any _ rfl _ _ _ rfl w.heap.size 38 i0 _ 3 24 Try.underlying30 hi0 hz0 hz1 hz2 rfl (by omega) _ 0 _ rfl HO.out B (some ad) n kap xs rfl HR.out HL.out (by unfold maxLen; omega) (by omega) (by simp) ?_; intro v' w2 ho hg hat)
    go_ret
    refine ⟨v', rfl, by simpa using ho, ((Below.refl _ _).alloc (Nat.le_refl _) _).grown hg (by simp) (fun k hk => ?_)⟩
    exact (HO.out.lt k hk).1
/-- The numbers of rooms that New takes. -/
def roomsB (l : List Int) : Bool := l.all fun r => decide (0 ≤ r) && decide (r ≤ 1000)
def argB (conn : Int) (n : Nat) (need : Int) : Bool := decide (0 ≤ conn) && decide (1 ≤ n) && decide (n ≤ 16) && decide (1 ≤ need) && decide (need ≤ 1000)
def fitsB (conn : Int) (l : List Int) (need : Int) : Bool := argB conn l.length need && roomsB l
theorem argB_iff {conn : Int} {n : Nat} {need : Int} : argB conn n need = true ↔ 0 ≤ conn ∧ 1 ≤ n ∧ n ≤ 16 ∧ 1 ≤ need ∧ need ≤ 1000 := by simp [argB, and_assoc]
theorem roomsB_at {l : List Int} (h : roomsB l = true) {i : Nat} (hi : i < l.length) : 0 ≤ l.getD i 0 ∧ l.getD i 0 ≤ 1000 := by
  have := List.all_eq_true.1 h l[i] (List.getElem_mem hi)
  simp at this
  simpa [List.getD_eq_getElem?_getD, List.getElem?_eq_getElem hi] using this
theorem roomsB_take {l : List Int} {i : Nat} (hi : i < l.length) : roomsB (l.take (i + 1)) = (roomsB (l.take i) && (decide (0 ≤ l.getD i 0) && decide (l.getD i 0 ≤ 1000))) := by
  rw [List.take_succ_eq_append_getElem hi]
  simp only [roomsB, List.all_append, List.all_cons, List.all_nil, Bool.and_true, List.getD_eq_getElem?_getD, List.getElem?_eq_getElem hi, Option.getD_some]
def iv (l : List Int) : List Value := l.map (Value.int .i64)
theorem iv_one (l : List Int) : ∀ u ∈ iv l, u.oneCell' = true := by
  intro u hu
  simp only [iv, List.mem_map] at hu
  obtain ⟨x, _, rfl⟩ := hu
  rfl
theorem iv_get {l : List Int} {i : Nat} (hi : i < l.length) : (iv l)[i]? = some (.int .i64 (l.getD i 0)) := by
  simp [iv, List.getD_eq_getElem?_getD, List.getElem?_eq_getElem hi]
def start0 (conn : Int) (l : List Int) (need : Int) : Ch := ⟨conn, need, l, List.replicate l.length 0⟩
theorem start0_ok {conn : Int} {l : List Int} {need : Int} (h : fitsB conn l need = true) : Ok (start0 conn l need) := by
  simp only [fitsB, Bool.and_eq_true] at h
  obtain ⟨h1, h2⟩ := h
  obtain ⟨a1, a2, a3, a4, a5⟩ := argB_iff.1 h1
  have hn : (start0 conn l need).n = l.length := by simp [start0, Ch.n]
  refine ⟨by rw [hn]; exact a2, by rw [hn]; exact a3, by rw [hn]; rfl, a4, a5, fun i hi => roomsB_at h2 (by rwa [hn] at hi), fun i hi => ?_⟩
  have : (start0 conn l need).st i = 0 := by
    rw [hn] at hi
    simp [start0, Ch.st, List.getD_eq_getElem?_getD, hi]
  rw [this]; omega
def News (w : World) (c : Ch) (e : Ending) (w' : World) : Prop :=
  ∃ L : Loc, e = .returned (.tuple #[.pointer (some ⟨L.p, 0, none⟩), .int .i64 0]) ∧ IsCh w' L c ∧ Below w.heap.size w w' ∧ w.heap.size ≤ L.p ∧ w.heap.size ≤ L.R ∧ w.heap.size ≤ L.S
theorem run_mk (n : Nat) (hn : n ≤ 16) (w : World) : (Instr.makeSlice 22 (.int .i64 (n : Int)) (.int .i64 (n : Int))).run Try.prog w = .ok (.slice (some ⟨w.heap.size, 0, none⟩) n n) (w.alloc (.cells (ints (List.replicate n 0)) 3)) := by
  obtain ⟨i0, hi, hz0, hz1, hz2⟩ := info_parts info3
  have h := run_make (P := Try.prog) w 22 3 i0 (.int .i64 0) Try.underlying22 hi hz0 .i64 .i64 n n (by omega) (by omega) (by rw [hz2]; omega) (by omega)
  rw [Int.toNat_natCast, hz1] at h
  rw [h]
  congr 3
  apply Array.ext
  · simp [madeCells, ints]
  · intro i h1 h2
    simp [madeCells, ints, Value.cells, Nat.mod_one]
/-- What New leaves, whichever of the two parts was made first. -/
theorem news_mk {w wm : World} {conn : Int} {l : List Int} {need : Int} {R S kap : Nat} {cur : Array Value} (h : fitsB conn l need = true)
    (hR : Blk wm R 3 cur) (hS : Blk wm S 3 (ints (List.replicate l.length 0))) (hRS : R ≠ S) (hw : w.heap.size ≤ R) (hwS : w.heap.size ≤ S) (hk : l.length ≤ kap) (hk2 : kap ≤ maxLen) (hcur : cur.toList.take l.length = iv l) (hb : Below w.heap.size w wm) :
    News w (start0 conn l need) (.returned (.tuple #[.pointer (some ⟨wm.heap.size, 0, none⟩), .int .i64 0])) (wm.alloc (.cells #[.int .i64 conn, .int .i64 need, .slice (some ⟨R, 0, none⟩) l.length kap, .slice (some ⟨S, 0, none⟩) l.length l.length] 65)) := by
  have hn : (start0 conn l need).n = l.length := by simp [start0, Ch.n]
  refine ⟨⟨wm.heap.size, R, S, kap⟩, rfl, ⟨?_, hS.alloc _, fun i hi => ?_, ?_, hRS, ?_, hk2, start0_ok h⟩, hb.alloc hb.size _, hb.size, hw, hwS⟩
  · rw [hn]; exact Blk.new wm 65 _
  · rw [hn] at hi
    refine (hR.alloc _).cell i ?_
    have h1 := iv_get hi
    rw [← hcur, List.getElem?_take_of_lt hi] at h1
    simpa [start0, Ch.room] using h1
  · have := hR.lt; simp; omega
  · rw [hn]; exact hk
set_option maxHeartbeats 4000000 in
theorem new_yes (conn : Int) (l : List Int) (need : Int) (A : Option Addr) (kap : Nat) (w : World) (B : Nat) (hr : Reads w B 1 A l.length (iv l)) (hB : B ≤ w.heap.size) (h : fitsB conn l need = true) :
    Calls Try.prog 11 #[.int .i64 conn, .slice A l.length kap, .int .i64 need] w (News w (start0 conn l need)) := by
  have hf := h
  simp only [fitsB, Bool.and_eq_true] at hf
  obtain ⟨h1, h2⟩ := hf
  obtain ⟨a1, a2, a3, a4, a5⟩ := argB_iff.1 h1
  have H := Kept.mk h
  have HR := Kept.mk hr
  have H2 := Kept.mk h2
  have hmk := fun W => run_mk l.length a3 W
  obtain ⟨ad, rfl, hadb, hcell⟩ := hr.2 (by omega)
  have HC := Kept.mk hcell
  clear h h1 h2 hr hcell
  go_enter Try.func11, Try.ntmps11
  go_wp2_with fail
  go_loop [32] (fun v32 => ∃ k : Nat, k ≤ l.length ∧ v32 = .int .i64 k) (fun v32 => l.length - (intOf v32).toNat)
  case atStart => exact ⟨0, by omega, rfl⟩
  case round =>
    obtain ⟨k, hk, rfl⟩ := hrel
    by_cases hlt : k < l.length
    · have hc := HC.out k _ (iv_get hlt)
      obtain ⟨r0, r1⟩ := roomsB_at H2.out hlt
      generalize l.getD k 0 = r at *
      go_wp2_with fail
      go_round
      case rel => exact ⟨k + 1, by omega, by go_num⟩
      case measure => simp [intOf]; omega
    · obtain rfl : k = l.length := by omega
      go_wp2_with fail
      go_region_with (go_at_call 31; refine (cloneI_c _ _ _ (iv l) _ B (by first | exact HR.out | exact HR.out.alloc hB _ | exact HR.out.drew | exact (HR.out.alloc hB _).drew | exact (HR.out.alloc hB _).drewN _) (by simp; omega) (iv_one _) (by omega)).mono ?_; rintro e w1 ⟨v, rfl, ho, hb⟩; obtain ⟨R, kap2, cur, rfl, hR1, hR2, hR3, hR4, hR5⟩ := own_form ho (by omega))
      all_goals simp only [Act.put, List.setIfInBounds_toArray, List.set_cons_zero, List.set_cons_succ, List.getElem_toArray, List.getElem_cons_succ, List.getElem_cons_zero]
      all_goals go_wp2_with fail
      all_goals go_ret2
      · have hb' := undrew hb
        have hz := hb'.size
        have hRl := hR2.lt
        have hq := news_mk (w := w) (R := R) (S := w1.heap.size) H.out (hR2.alloc _) (Blk.new w1 3 _) (by omega) hR1 hz hR3 hR4 hR5 (hb'.alloc hz _)
        rw [World.size_alloc] at hq
        exact hq
      · have hb' := undrew hb
        have hz := hb'.size
        have hS := (Blk.new w 3 (ints (List.replicate l.length 0))).new_ hb'
        have hR1' : (w.alloc (Obj.cells (ints (List.replicate l.length 0)) 3)).heap.size ≤ R := hR1
        rw [World.size_alloc] at hR1'
        exact news_mk (w := w) (R := R) (S := w.heap.size) H.out hR2 hS (by omega) (by omega) (Nat.le_refl _) hR3 hR4 hR5 (((Below.refl _ _).alloc (Nat.le_refl _) _).trans (hb'.mono (by simp)))
set_option maxHeartbeats 2000000 in
theorem new_no (conn : Int) (l : List Int) (need : Int) (A : Option Addr) (kap : Nat) (w : World) (B : Nat) (hr : Reads w B 1 A l.length (iv l)) (hn : l.length ≤ 1000000) (h : fitsB conn l need = false) :
    Calls Try.prog 11 #[.int .i64 conn, .slice A l.length kap, .int .i64 need] w fun e w' => e = .returned (.tuple #[.pointer none, .int .i64 2]) ∧ w = w' := by
  cases h1 : argB conn l.length need with
  | false =>
    have hor : conn < 0 ∨ (0 ≤ conn ∧ l.length < 1) ∨ (0 ≤ conn ∧ 1 ≤ l.length ∧ 16 < l.length) ∨ (0 ≤ conn ∧ 1 ≤ l.length ∧ l.length ≤ 16 ∧ need < 1) ∨ (0 ≤ conn ∧ 1 ≤ l.length ∧ l.length ≤ 16 ∧ 1 ≤ need ∧ 1000 < need) := by
      have : ¬ argB conn l.length need = true := by simp [h1]
      rw [argB_iff] at this
      omega
    clear h1 h hr
    rcases hor with h | ⟨h, h1⟩ | ⟨h, h1, h2⟩ | ⟨h, h1, h2, h3⟩ | ⟨h, h1, h2, h3, h4⟩
    all_goals
      go_enter Try.func11, Try.ntmps11
      go_wp2_with fail
      go_ret2
      exact ⟨rfl, rfl⟩
  | true =>
    obtain ⟨a1, a2, a3, a4, a5⟩ := argB_iff.1 h1
    have H2 : Kept (roomsB l = false) := ⟨by simpa [fitsB, h1] using h⟩
    obtain ⟨ad, rfl, hadb, hcell⟩ := hr.2 (by omega)
    have HC := Kept.mk hcell
    clear h h1 hr hcell
    go_enter Try.func11, Try.ntmps11
    go_wp2_with fail
    go_loop [32] (fun v32 => ∃ k : Nat, k ≤ l.length ∧ v32 = .int .i64 k ∧ Kept (roomsB (l.take k) = true)) (fun v32 => l.length - (intOf v32).toNat)
    case atStart => exact ⟨0, by omega, rfl, ⟨rfl⟩⟩
    case round =>
      obtain ⟨k, hk, rfl, HT⟩ := hrel
      by_cases hlt : k < l.length
      · have hc := HC.out k _ (iv_get hlt)
        have HN := Kept.mk (roomsB_take hlt)
        generalize l.getD k 0 = r at *
        by_cases r0 : r < 0
        · go_wp2_with fail
          go_ret2
          exact ⟨rfl, rfl⟩
        · by_cases r1 : 1000 < r
          · go_wp2_with fail
            go_ret2
            exact ⟨rfl, rfl⟩
          · have HN2 : Kept (roomsB (l.take (k + 1)) = true) := ⟨by rw [HN.out, HT.out]; simp; omega⟩
            go_wp2_with fail
            go_round
            case rel => exact ⟨k + 1, by omega, by go_num, HN2⟩
            case measure => simp [intOf]; omega
      · obtain rfl : k = l.length := by omega
        have := HT.out
        rw [List.take_length, H2.out] at this
        cases this
set_option maxHeartbeats 2000000 in
/-- The reference's Fits. -/
theorem fits_c (conn : Int) (l : List Int) (need : Int) (A : Option Addr) (kap : Nat) (w : World) (B : Nat) (hr : Reads w B 1 A l.length (iv l)) (hn : l.length ≤ 1000000) :
    Calls Try.prog 12 #[.int .i64 conn, .slice A l.length kap, .int .i64 need] w fun e w' => e = .returned (.bool (fitsB conn l need)) ∧ w = w' := by
  have HC := Kept.mk hr
  have HF : Kept (∀ k, k < l.length → roomsB (l.take (k + 1)) = false → fitsB conn l need = false) := ⟨fun k hk h => by
    have : roomsB l = false := by
      rw [Bool.eq_false_iff] at h ⊢
      intro h2
      apply h
      rw [roomsB, List.all_eq_true] at h2 ⊢
      exact fun x hx => h2 x (List.mem_of_mem_take hx)
    simp [fitsB, this]⟩
  clear hr
  go_enter Try.func12, Try.ntmps12
  go_wp2_with fail
  go_loop [7] (fun v7 => ∃ k : Nat, k ≤ l.length ∧ v7 = .int .i64 k ∧ Kept (roomsB (l.take k) = true)) (fun v7 => l.length - (intOf v7).toNat)
  case atStart => exact ⟨0, by omega, rfl, ⟨rfl⟩⟩
  case round =>
    obtain ⟨k, hk, rfl, HT⟩ := hrel
    by_cases hlt : k < l.length
    · obtain ⟨ad, v, rfl, hadb, hx, hc⟩ := HC.out.at_ hlt
      rw [iv_get hlt] at hx
      injection hx with hx
      subst hx
      have HN := Kept.mk (roomsB_take hlt)
      have HFK := Kept.mk (HF.out k hlt)
      generalize l.getD k 0 = r at *
      by_cases r0 : r < 0
      · have HR : Kept (fitsB conn l need = false) := ⟨HFK.out (by rw [HN.out, HT.out]; simp; omega)⟩
        go_wp2_with fail
        go_ret
        exact ⟨by rw [HR.out]; rfl, rfl⟩
      · by_cases r1 : 1000 < r
        · have HR : Kept (fitsB conn l need = false) := ⟨HFK.out (by rw [HN.out, HT.out]; simp; omega)⟩
          go_wp2_with fail
          go_ret
          exact ⟨by rw [HR.out]; rfl, rfl⟩
        · have HN2 : Kept (roomsB (l.take (k + 1)) = true) := ⟨by rw [HN.out, HT.out]; simp; omega⟩
          go_wp2_with fail
          go_round
          case rel => exact ⟨k + 1, by omega, by go_num, HN2⟩
          case measure => simp [intOf]; omega
    · obtain rfl : k = l.length := by omega
      have HR : Kept (fitsB conn l need = argB conn l.length need) := ⟨by have := HT.out; rw [List.take_length] at this; simp [fitsB, this]⟩
      have HA : Kept (argB conn l.length need = (decide (0 ≤ conn) && decide (1 ≤ l.length) && decide (l.length ≤ 16) && decide (1 ≤ need) && decide (need ≤ 1000))) := ⟨rfl⟩
      clear HC HF HT
      go_wp2_with fail
      all_goals go_ret
      all_goals exact ⟨ret_bool (by rw [HR.out, HA.out]; simp; try omega), rfl⟩
end Go.Proofs.Ytnmgnggchgckoaa
