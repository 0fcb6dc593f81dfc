/- For all bytes, offsets, sizes and orders the statement SegmentBack returns true: the segments of data are joined to the data, in any order. No condition. -/
import Derived.Test.YtdhajibegkkeiaaBase
import Derived.Test.YtdhajibegkkeiaaPlainS
import Derived.Test.YtdhajibegkkeiaaGreat
import Derived.Test.YtdhajibegkkeiaaJoin
import Derived.Test.YtdhajibegkkeiaaBaseC
namespace Go.Proofs.Ytdhajibegkkeiaa
open Go.ChangeShapes Go.WideShapes Go.ChangeAt Go.RowKit
set_option linter.unusedVariables false
set_option linter.unusedSimpArgs false
theorem scells_set {qs : List PSeg} {i : Nat} {p : PSeg} (hi : i < qs.length) : (((scells qs).set (i * 3) (.int .i64 p.s.off)).set (i * 3 + 1) (.slice p.A p.s.data.length p.kap)).set (i * 3 + 2) (.bool p.s.last) = scells (qs.set i p) := by
  induction qs generalizing i with
  | nil => simp at hi
  | cons q qs ih =>
    cases i with
    | zero => simp [scells_cons]
    | succ i =>
      have := ih (i := i) (by simpa using hi)
      rw [show (i + 1) * 3 = i * 3 + 1 + 1 + 1 by omega, show i * 3 + 1 + 1 + 1 + 1 = (i * 3 + 1) + 1 + 1 + 1 by omega, show i * 3 + 1 + 1 + 1 + 2 = (i * 3 + 2) + 1 + 1 + 1 by omega]
      simp only [List.set_cons_succ, scells_cons, this]
def swapP (qs : List PSeg) (i j : Nat) (p q : PSeg) : List PSeg := (qs.set i q).set j p
theorem swap_len (qs : List PSeg) (i j : Nat) (p q : PSeg) : (swapP qs i j p q).length = qs.length := by simp [swapP]
theorem mem_swap {qs : List PSeg} {i j : Nat} {p q : PSeg} (hi : qs[i]? = some p) (hj : qs[j]? = some q) (x : PSeg) : x ∈ swapP qs i j p q ↔ x ∈ qs := by
  have li : i < qs.length := (List.getElem?_eq_some_iff.1 hi).1
  have lj : j < qs.length := (List.getElem?_eq_some_iff.1 hj).1
  unfold swapP
  constructor
  · intro h
    rcases List.mem_or_eq_of_mem_set h with h | rfl
    · rcases List.mem_or_eq_of_mem_set h with h | rfl
      · exact h
      · exact List.mem_of_getElem? hj
    · exact List.mem_of_getElem? hi
  · intro h
    obtain ⟨k, hk⟩ := List.getElem?_of_mem h
    have lk : k < qs.length := (List.getElem?_eq_some_iff.1 hk).1
    by_cases e1 : k = j
    · subst e1
      rw [hk] at hj; injection hj with hj; subst hj
      refine List.mem_of_getElem? (i := i) ?_
      by_cases e2 : k = i
      · subst e2
        rw [hk] at hi; injection hi with hi; subst hi
        simp [li]
      · rw [List.getElem?_set_ne e2, List.getElem?_set_self li]
    · by_cases e2 : k = i
      · subst e2
        rw [hk] at hi; injection hi with hi; subst hi
        exact List.mem_of_getElem? (i := j) (by simp [lj])
      · refine List.mem_of_getElem? (i := k) ?_
        rw [List.getElem?_set_ne (fun e => e1 e.symm), List.getElem?_set_ne (fun e => e2 e.symm)]
        exact hk
/-- The world of a round: the mixed segments. -/
structure MixW (B : Nat) (v : Value) (ps qs : List PSeg) (wr : World) : Prop where
  row : wr.ownsRow B 24 3 v qs.length (scells qs)
  sub : ∀ q ∈ qs, q ∈ ps
  sup : ∀ p ∈ ps, p ∈ qs
theorem MixW.swap {B : Nat} {ps qs : List PSeg} {wr : World} {g kap i j : Nat} {p q : PSeg} (h : MixW B (.slice (some ⟨g, 0, none⟩) qs.length kap) ps qs wr) (hi : qs[i]? = some p) (hj : qs[j]? = some q) :
    MixW B (.slice (some ⟨g, 0, none⟩) qs.length kap) ps (swapP qs i j p q) ((((((wr.setCell ⟨g, i * 3, none⟩ (.int .i64 q.s.off)).setCell ⟨g, i * 3 + 1, none⟩ (.slice q.A q.s.data.length q.kap)).setCell ⟨g, i * 3 + 2, none⟩ (.bool q.s.last)).setCell ⟨g, j * 3, none⟩ (.int .i64 p.s.off)).setCell ⟨g, j * 3 + 1, none⟩ (.slice p.A p.s.data.length p.kap)).setCell ⟨g, j * 3 + 2, none⟩ (.bool p.s.last)) := by
  have li : i < qs.length := (List.getElem?_eq_some_iff.1 hi).1
  have lj : j < qs.length := (List.getElem?_eq_some_iff.1 hj).1
  refine ⟨?_, fun x hx => h.sub x ((mem_swap hi hj x).1 hx), fun x hx => (mem_swap hi hj x).2 (h.sup x hx)⟩
  have r1 := (World.ownsRow.stored h.row (i * 3) (.int .i64 q.s.off)).1
  have r2 := (World.ownsRow.stored r1 (i * 3 + 1) (.slice q.A q.s.data.length q.kap)).1
  have r3 := (World.ownsRow.stored r2 (i * 3 + 2) (.bool q.s.last)).1
  rw [scells_set li] at r3
  have r4 := (World.ownsRow.stored r3 (j * 3) (.int .i64 p.s.off)).1
  have r5 := (World.ownsRow.stored r4 (j * 3 + 1) (.slice p.A p.s.data.length p.kap)).1
  have r6 := (World.ownsRow.stored r5 (j * 3 + 2) (.bool p.s.last)).1
  rw [scells_set (by simpa using lj)] at r6
  rw [swap_len]
  exact r6
theorem MixW.drew {B : Nat} {v : Value} {ps qs : List PSeg} {wr : World} (h : MixW B v ps qs wr) : MixW B v ps qs wr.drew := ⟨h.row, h.sub, h.sup⟩
theorem six {w wr : World} {B g a b c d e f : Nat} {x1 x2 x3 x4 x5 x6 : Value} (hg : B ≤ g) (h : Below B w wr) : Below B w ((((((wr.setCell ⟨g, a, none⟩ x1).setCell ⟨g, b, none⟩ x2).setCell ⟨g, c, none⟩ x3).setCell ⟨g, d, none⟩ x4).setCell ⟨g, e, none⟩ x5).setCell ⟨g, f, none⟩ x6) :=
  (((((h.setCell (p := ⟨g, a, none⟩) hg x1).setCell (p := ⟨g, b, none⟩) hg x2).setCell (p := ⟨g, c, none⟩) hg x3).setCell (p := ⟨g, d, none⟩) hg x4).setCell (p := ⟨g, e, none⟩) hg x5).setCell (p := ⟨g, f, none⟩) hg x6
theorem own_head {w : World} {B n k : Nat} {A : Option Addr} {xs : List Value} (h : w.ownsRow B 24 3 (.slice A n k) n xs) (hn : 0 < n) : ∃ g, A = some ⟨g, 0, none⟩ ∧ g < w.heap.size := by
  rcases h.2 with ⟨_, h2⟩ | ⟨g, cap, cur, h1, h2, h3, _⟩
  · omega
  · injection h1 with h1
    exact ⟨g, h1, lt_of_some h3⟩
theorem split_ok {n : Nat} {o : Int} {m : Nat} {last : Bool} (hn : n ≤ 300) (h1 : 0 ≤ o) (h2 : o ≤ 4294967295) (m1 : 1 ≤ m) (m2 : m ≤ 64) : badB n o m = false ∧ splitE n o m last = 0 ∧ nP n m last ≤ 301 := by
  have hb : badB n o m = false := by
    simp only [badB, Bool.or_eq_false_iff, decide_eq_false_iff_not]
    omega
  have hp : nP n m last ≤ 301 := by
    unfold nP
    split
    · omega
    · rcases Nat.lt_or_ge n (pieces n m) with h | h
      · have h3 := pieces_lo m1 h
        have h4 := Nat.le_mul_of_pos_right n m1
        omega
      · omega
  refine ⟨hb, ?_, hp⟩
  unfold splitE
  rw [hb]
  show (if 1000 < nP n m last then (5 : Int) else 0) = 0
  rw [if_neg (by omega)]
set_option maxRecDepth 100000 in
set_option maxHeartbeats 8000000 in
theorem walkSegmentBack (A : Option Addr) (kap : Nat) (d : List Int) (o m : Int) (last : Bool) (A4 : Option Addr) (kap4 : Nat) (ks : List Int) (w : World) (hby : Bytes d) (hr : Reads w w.heap.size 1 A d.length (bv d)) (hkap : d.length ≤ kap) (hmax : kap ≤ maxLen) (ho : 0 ≤ o ∧ o ≤ 4294967295) (hm : 0 ≤ m ∧ m ≤ 255) (hk4 : Reads w w.heap.size 1 A4 ks.length (kv ks)) (hkb : ∀ i, i < ks.length → -9223372036854775808 ≤ ks.getD i 0 ∧ ks.getD i 0 ≤ 9223372036854775807) (hkl : ks.length ≤ 9223372036854775807) :
    Calls Try.prog 6 #[.slice A d.length kap, .int .u32 o, .int .u8 m, .bool last, .slice A4 ks.length kap4] w fun e w' => e = .returned (.bool true) ∧ Below w.heap.size w w' := by
  obtain ⟨jj, hjj, hy0, hy1, hy2⟩ := info_parts info24
  have HKP := Kept.mk hkap
  have HMX := Kept.mk hmax
  have HR := Kept.mk hr
  have HBY := Kept.mk hby
  have HK4 := Kept.mk hk4
  have HKB := Kept.mk hkb
  have hmx : d.length ≤ 9223372036854775807 := by unfold maxLen at hmax; omega
  obtain ⟨o1, o2⟩ := ho
  obtain ⟨m1, m2⟩ := hm
  clear hkap hmax hr hby hk4 hkb
  have z0 : (0 : Int) ≤ d.length := by omega
  have z1 : (0 : Int) ≤ ks.length := by omega
  have hcase : (300 : Int) < d.length ∨ (¬ (300 : Int) < d.length ∧ (400 : Int) < ks.length) ∨ (¬ (300 : Int) < d.length ∧ ¬ (400 : Int) < ks.length) := by omega
  rcases hcase with y1 | ⟨y1, y2⟩ | ⟨y1, y2⟩
  · go_enter Try.func6, Try.ntmps6
    go_wp2_with (go_at_call 11; refine (awake_c _).mono ?_; rintro e w1 ⟨rfl, hb1⟩; have HJ := Kept.mk hb1; clear hb1)
    go_ret
    exact ⟨rfl, HJ.out⟩
  · go_enter Try.func6, Try.ntmps6
    go_wp2_with (go_at_call 11; refine (awake_c _).mono ?_; rintro e w1 ⟨rfl, hb1⟩; have HJ := Kept.mk hb1; clear hb1)
    go_ret
    exact ⟨rfl, HJ.out⟩
  · have hd3 : d.length ≤ 300 := by omega
    have hks : ks.length ≤ 400 := by omega
    obtain ⟨mm, hmm⟩ : ∃ mm : Nat, m % 64 + 1 = (mm : Int) := ⟨(m % 64 + 1).toNat, by omega⟩
    have hmm1 : 1 ≤ mm := by omega
    have hmm2 : mm ≤ 64 := by omega
    obtain ⟨hb, he, hnp⟩ := split_ok (last := last) hd3 o1 o2 hmm1 hmm2
    have HB := Kept.mk hb
    have HE := Kept.mk he
    have HP : Kept (splitP d o mm last = splitK d o mm last (nP d.length mm last) (nP d.length mm last)) := ⟨splitP0 he rfl⟩
    obtain ⟨n, HN⟩ : ∃ n, Kept (n = nP d.length mm last) := ⟨_, ⟨rfl⟩⟩
    rw [← HN.out] at HP hnp
    clear hb he
    go_enter Try.func6, Try.ntmps6
    go_wp2_with (first | (go_at_call 11; refine (awake_c _).mono ?_; rintro e w1 ⟨rfl, hb1⟩; have HJ := Kept.mk hb1; clear hb1) | (go_at_call 18; go_must (refine (split_c d A kap o mm last _ w.heap.size (HR.out.below HJ.out) HBY.out HKP.out HMX.out HJ.out.size (by omega)).mono ?_); rintro e w2 ⟨v2, ps, rfl, hol, hb2⟩; rw [HE.out]; rw [HP.out] at hol; obtain ⟨A3, k3, rfl⟩ := own_slice hol.row; have HOL := Kept.mk hol; have HSA := Kept.mk hol.at_.2; have HJ2 := Kept.mk (join HJ.out hb2); have HPL : Kept (ps.length = n) := ⟨by rw [← segs_len, hol.eq, splitK_len]⟩; clear hol hb2 hmm) | (go_at_call 24; go_must (refine (cloneS_c A3 k3 ps.length ps _ _ rfl HSA.out.rd (Nat.le_refl _) (by rw [HPL.out]; omega)).mono ?_); rintro e w3 ⟨v3, rfl, ho3, hb3⟩; have HM3 := Kept.mk (MixW.mk ho3 (fun q hq => hq) (fun q hq => hq)); have HB3 := Kept.mk hb3; clear ho3 hb3))
    have hpl : ps.length ≤ 301 := by rw [HPL.out]; exact hnp
    go_loopw [13, 49] (fun v13 v49 wr => ∃ (i : Nat) (qs : List PSeg), i ≤ ks.length ∧ v49 = .int .i64 i ∧ qs.length ≤ ps.length + i ∧ Kept (MixW w2.heap.size v13 ps qs wr) ∧ Kept (Below w2.heap.size w2 wr)) (fun _ v49 _ => ks.length - (intOf v49).toNat)
    case atStart => exact ⟨0, ps, by omega, rfl, by omega, HM3, HB3⟩
    case round =>
      clear HM3 HB3
      obtain ⟨i, qs, hi, rfl, hql, HM, HB2⟩ := hrel
      obtain ⟨A5, k5, rfl⟩ := own_slice HM.out.row
      by_cases hlt : i < ks.length
      · obtain ⟨b, off, rfl, hbb, hbw, hc⟩ := HK4.out.spot (by omega) (by omega)
        obtain ⟨k, HK⟩ : ∃ k, Kept (ks.getD i 0 = k) := ⟨_, ⟨rfl⟩⟩
        have kb := HKB.out i hlt
        have d1 : wr.cell? ⟨b, off + i, none⟩ = some (.int .i64 k) := ((HJ2.out.trans (HB2.out.mono HJ2.out.size)).cell (p := ⟨b, off + i, none⟩) hbw).trans (by rw [hc i _ (kv_get hlt), HK.out])
        rw [HK.out] at kb
        obtain ⟨kb1, kb2⟩ := kb
        have hi8 : (i : Int) < ks.length := by omega
        clear hc
        have hcc : k < 0 ∨ (¬ k < 0 ∧ 0 ≤ k ∧ ps.length = 0 ∧ ((ps.length : Int) == 0) = true) ∨ (¬ k < 0 ∧ 0 ≤ k ∧ 0 < ps.length ∧ ((ps.length : Int) == 0) = false) := by
          by_cases h1 : k < 0
          · exact .inl h1
          · by_cases h2 : ps.length = 0
            · right; left; exact ⟨h1, by omega, h2, by simp [h2]⟩
            · right; right; exact ⟨h1, by omega, by omega, beq_false_of_ne (by omega)⟩
        rcases hcc with h1 | ⟨h1, h2, h3, h4⟩ | ⟨h1, h2, h3, h4⟩
        · go_wp2_with fail
          go_roundw
          case rel => exact ⟨i + 1, qs, by omega, by go_num, by omega, HM, HB2⟩
          case measure => simp [intOf]; omega
        · clear h3
          go_wp2_with fail
          go_roundw
          case rel => exact ⟨i + 1, qs, by omega, by go_num, by omega, HM, HB2⟩
          case measure => simp [intOf]; omega
        · have hq0 : 0 < qs.length := by
            obtain ⟨x, hx⟩ := get_some h3
            exact List.length_pos_of_mem (HM.out.sup x (List.mem_of_getElem? hx))
          by_cases hiq : i < qs.length
          · obtain ⟨g, rfl, hgl⟩ := own_head HM.out.row hq0
            obtain ⟨j, hj⟩ : ∃ j : Nat, k % (qs.length : Int) = j := ⟨(k % (qs.length : Int)).toNat, by have := Int.emod_nonneg k (show (qs.length : Int) ≠ 0 by omega); omega⟩
            have hjl : j < qs.length := by have := Int.emod_lt_of_pos k (show (0 : Int) < qs.length by omega); omega
            obtain ⟨p, hp⟩ := get_some hiq
            obtain ⟨q, hq⟩ := get_some hjl
            obtain ⟨g1, g2, g3⟩ := scells_get hp
            obtain ⟨g4, g5, g6⟩ := scells_get hq
            have c1 := (World.ownsRow.cellAt HM.out.row (i * 3) (by omega)).trans g1
            have c2 := (World.ownsRow.cellAt HM.out.row (i * 3 + 1) (by omega)).trans g2
            have c3 := (World.ownsRow.cellAt HM.out.row (i * 3 + 2) (by omega)).trans g3
            have c4 := (World.ownsRow.cellAt HM.out.row (j * 3) (by omega)).trans g4
            have c5 := (World.ownsRow.cellAt HM.out.row (j * 3 + 1) (by omega)).trans g5
            have c6 := (World.ownsRow.cellAt HM.out.row (j * 3 + 2) (by omega)).trans g6
            have f1 := World.ownsRow.frozenAt HM.out.row (i * 3)
            have f2 := World.ownsRow.frozenAt HM.out.row (i * 3 + 1)
            have f3 := World.ownsRow.frozenAt HM.out.row (i * 3 + 2)
            have f4 := World.ownsRow.frozenAt HM.out.row (j * 3)
            have f5 := World.ownsRow.frozenAt HM.out.row (j * 3 + 1)
            have f6 := World.ownsRow.frozenAt HM.out.row (j * 3 + 2)
            have HSW := Kept.mk (HM.out.swap hp hq)
            have HGB : Kept (w2.heap.size ≤ g) := ⟨(HM.out.row.lt g rfl).1⟩
            have hi7 : (i : Int) < qs.length := by omega
            have hj7 : (j : Int) < qs.length := by omega
            have hj8 : (0 : Int) ≤ j := by omega
            have HPP := Kept.mk hp
            have HQQ := Kept.mk hq
            clear g1 g2 g3 g4 g5 g6 hp hq
            by_cases hij : i = j
            · subst hij
              obtain rfl : p = q := by have h5 := HPP.out; rw [HQQ.out] at h5; injection h5 with h5; exact h5.symm
              clear c4 c5 c6 f4 f5 f6
              go_wp2_with fail
              go_region
              all_goals
                go_wp2_with fail
                go_roundw
                case rel => exact ⟨i + 1, swapP qs i i p p, by omega, by go_num, by rw [swap_len]; omega, ⟨HSW.out.drew⟩, ⟨(six HGB.out HB2.out).drew⟩⟩
                case measure => simp [intOf]; omega
            · have HSW2 := Kept.mk (HM.out.swap HQQ.out HPP.out)
              have na00 : i * 3 ≠ j * 3 := by omega
              have nb00 : j * 3 ≠ i * 3 := by omega
              have na01 : i * 3 ≠ j * 3 + 1 := by omega
              have nb01 : j * 3 + 1 ≠ i * 3 := by omega
              have na02 : i * 3 ≠ j * 3 + 2 := by omega
              have nb02 : j * 3 + 2 ≠ i * 3 := by omega
              have na10 : i * 3 + 1 ≠ j * 3 := by omega
              have nb10 : j * 3 ≠ i * 3 + 1 := by omega
              have na11 : i * 3 + 1 ≠ j * 3 + 1 := by omega
              have nb11 : j * 3 + 1 ≠ i * 3 + 1 := by omega
              have na12 : i * 3 + 1 ≠ j * 3 + 2 := by omega
              have nb12 : j * 3 + 2 ≠ i * 3 + 1 := by omega
              have na20 : i * 3 + 2 ≠ j * 3 := by omega
              have nb20 : j * 3 ≠ i * 3 + 2 := by omega
              have na21 : i * 3 + 2 ≠ j * 3 + 1 := by omega
              have nb21 : j * 3 + 1 ≠ i * 3 + 2 := by omega
              have na22 : i * 3 + 2 ≠ j * 3 + 2 := by omega
              have nb22 : j * 3 + 2 ≠ i * 3 + 2 := by omega
              go_wp2_with fail
              go_region
              all_goals
                go_wp2_with fail
                go_roundw
                case rel => first | exact ⟨i + 1, swapP qs i j p q, by omega, by go_num, by rw [swap_len]; omega, ⟨HSW.out.drew⟩, ⟨(six HGB.out HB2.out).drew⟩⟩ | exact ⟨i + 1, swapP qs j i q p, by omega, by go_num, by rw [swap_len]; omega, ⟨HSW2.out.drew⟩, ⟨(six HGB.out HB2.out).drew⟩⟩
                case measure => simp [intOf]; omega
          · obtain ⟨j, hj⟩ : ∃ j : Nat, k % (ps.length : Int) = j := ⟨(k % (ps.length : Int)).toNat, by have := Int.emod_nonneg k (show (ps.length : Int) ≠ 0 by omega); omega⟩
            have hjl : j < ps.length := by have := Int.emod_lt_of_pos k (show (0 : Int) < ps.length by omega); omega
            obtain ⟨p, b2, off2, hp, e2, -, hb2, c1, c2, c3, hsg⟩ := (HSA.out.below HB2.out).at_ hjl
            obtain rfl : A3 = some ⟨b2, off2, none⟩ := e2
            have HPP := Kept.mk (List.mem_of_getElem? hp)
            have hiq' : ¬ (i : Int) < qs.length := by omega
            have hj7 : (j : Int) < ps.length := by omega
            have hj8 : (0 : Int) ≤ j := by omega
            have HSS := Kept.mk (lit_seg (w := wr) (p := p))
            have HZ := HB2.out.size
            clear hp hsg
            go_wp2_with (at_builtin; go_must (refine wpList_append_any _ rfl _ _ 34 rfl w2.heap.size 24 jj _ 3 40 Try.underlying34 hjj hy0 hy1 hy2 rfl (by omega) _ qs.length (scells qs) rfl (HM.out.row.alloc _) _ (some ⟨wr.heap.size, 0, none⟩) 1 1 (scells [p]) rfl HSS.out scells_one (by unfold maxLen; omega) (by omega) (by simp only [World.size_alloc]; omega) ?_); intro v4 w4 ho4 hg4 _; have HM4 : Kept (MixW w2.heap.size v4 ps (qs ++ [p]) w4) := ⟨⟨by rw [List.length_append, scells_app]; exact ho4, fun x hx => (by rcases List.mem_append.1 hx with hx | hx; exact HM.out.sub x hx; rw [List.mem_singleton.1 hx]; exact HPP.out), fun x hx => List.mem_append_left _ (HM.out.sup x hx)⟩⟩; have HB4 : Kept (Below w2.heap.size w2 w4) := ⟨(HB2.out.alloc HZ _).grown hg4 (by simp only [World.size_alloc]; omega) (fun g hg => (HM.out.row.lt g hg).1)⟩; clear ho4 hg4)
            go_roundw
            case rel => exact ⟨i + 1, qs ++ [p], by omega, by go_num, by rw [List.length_append]; simp; omega, HM4, HB4⟩
            case measure => simp [intOf]; omega
      · obtain rfl : i = ks.length := by omega
        clear hlt
        have HSQ : Kept (SegsAt wr wr.heap.size A5 qs) := ⟨⟨Reads.of_own HM.out.row, fun q hq => (HSA.out.seg q (HM.out.sub q hq)).new_ HB2.out⟩⟩
        have HJR : Kept (Below w.heap.size w wr) := ⟨HJ2.out.trans (HB2.out.mono HJ2.out.size)⟩
        by_cases hz : ps.length = 0
        · have hps : ps = [] := List.eq_nil_of_length_eq_zero hz
          have HQ0 : Kept (qs = []) := ⟨List.eq_nil_iff_forall_not_mem.2 fun q hq => by have := HM.out.sub q hq; rw [hps] at this; simp at this⟩
          have hd0 : d.length = 0 ∧ last = false := by
            have h1 := HPL.out
            rw [hz, HN.out] at h1
            have h2 := nP_hi d.length last hmm1
            rw [← h1] at h2
            have h3 : d.length = 0 := by omega
            refine ⟨h3, ?_⟩
            cases last
            · rfl
            · have hp0 : pieces 0 mm = 0 := by unfold pieces; exact Nat.div_eq_of_lt (by omega)
              rw [h3] at h1
              unfold nP at h1
              rw [hp0] at h1
              simp at h1
          obtain ⟨hd1, rfl⟩ := hd0
          have q1 : ((ps.length : Int) == 0) = true := by simp [hz]
          have q2 : ((d.length : Int) == 0) = true := by simp [hd1]
          clear hz hps hd1
          go_wp2_with (go_at_call 25; go_must (refine (join_c qs A5 k5 _ _ HSQ.out (Nat.le_refl _) (by omega)).mono ?_); rintro e w5 ⟨r, v5, hj, hby, rfl, ho5, hb5⟩; obtain rfl : r = ⟨[], 0, false, 0⟩ := joinIs_uniq hj (.none_ (by rw [HQ0.out]; rfl)); obtain ⟨A6, k6, rfl⟩ := own_slice ho5; have HJ5 := Kept.mk (join HJR.out hb5); clear hj hby ho5 hb5)
          go_ret
          exact ⟨rfl, HJ5.out⟩
        · have hz1 : 0 < ps.length := by omega
          have q1 : ((ps.length : Int) == 0) = false := beq_false_of_ne (by omega)
          have HJN : Kept (JoinIs (segs qs) ⟨d, o, last, 0⟩) := ⟨by
            have hJ : JoinIs (segs ps) ⟨d, o, last, 0⟩ := by
              rw [HOL.out.eq]
              exact split_join HN.out HB.out (by rw [← HPL.out]; exact hz1) (by omega)
            have hmem : ∀ s, s ∈ segs ps ↔ s ∈ segs qs := fun s => by
              simp only [segs, List.mem_map]
              exact ⟨fun ⟨p, hp, e⟩ => ⟨p, HM.out.sup p hp, e⟩, fun ⟨p, hp, e⟩ => ⟨p, HM.out.sub p hp, e⟩⟩
            have hv : AllV (segs ps) := by rw [HOL.out.eq, HN.out]; exact split_valid HB.out
            have hne : segs ps ≠ [] := fun e => by
              have h1 := congrArg List.length e
              rw [segs_len, List.length_nil] at h1
              omega
            obtain ⟨s0, hs0⟩ := List.exists_mem_of_ne_nil _ hne
            exact (alike_mem hmem).join hJ (by rw [segs_len]; omega) (by rw [segs_len]; omega) hv (fun s hs => hv s ((hmem s).2 hs)) hne (fun e => by have h1 := (hmem s0).1 hs0; rw [e] at h1; simp at h1)⟩
          clear hz hz1
          go_wp2_with (go_at_call 25; go_must (refine (join_c qs A5 k5 _ _ HSQ.out (Nat.le_refl _) (by omega)).mono ?_); rintro e w5 ⟨r, v5, hj, hby, rfl, ho5, hb5⟩; obtain rfl := joinIs_uniq hj HJN.out; obtain ⟨A6, k6, rfl⟩ := own_slice ho5; have kv := conv_reads (P := Try.prog) (kap := k6) 22 5 9 Try.underlying22 Try.underlying5 Try.underlying9 (Reads.of_own ho5); have HJ5 := Kept.mk (join HJR.out hb5); have kw := conv_reads (P := Try.prog) (kap := kap) 22 5 9 Try.underlying22 Try.underlying5 Try.underlying9 (HR.out.below HJ5.out); clear hj hby ho5 hb5)
          go_ret
          exact ⟨rfl, HJ5.out⟩

set_option maxRecDepth 100000 in
theorem liftedSegmentBack (os : Os) (started : os.Started) (H : Type) (enc : TypeId × Value → H) :
    ReturnsInHanded {} Try.checked os 6 .any (Rows.segmentBackSpec.pre6 enc Try.prog Try.f6 Rows.segmentBackRow.domain false) (Rows.segmentBackSpec.post enc Try.prog Try.f6 false true false false) := by
  refine returnsInHanded_of_change (C := Try.checked) own started (by kernel_rfl) Try.func6
    (ChangeSpec.witness6 (enc := enc) (C := Try.checked) false ⟨#[], #[.slice none 0 0, .int .u32 0, .int .u8 0, .bool false, .slice none 0 0], []⟩ 8 (by kernel_rfl) (by kernel_rfl) (by kernel_rfl) (by kernel_rfl)) ?_
  intro W base args ds gs before hval0 hW hcnd _
  have hval : ∀ (j : Nat) t v, Try.f6.params[j]? = some t → args[j]? = some v → Value.okWide Try.prog W .any base t v := hval0
  have hW' := hW
  obtain ⟨p, q, hA0, hV, rfl, hfz, hnd⟩ := hW
  have hA : DataW.TrodAll enc Try.prog W 0 (fun _ => true) true Try.f6.params.toList args.toList ds p := hA0
  rw [Try.params6] at hA hval
  obtain ⟨v0, vs0, d0, ds0, p0, q0, hargs, rfl, rfl, h0, r0⟩ := trodAll_cons hA
  obtain ⟨v1, vs1, d1, ds1, p1, q1, rfl, rfl, rfl, h1, r1⟩ := trodAll_cons r0
  obtain ⟨v2, vs2, d2, ds2, p2, q2, rfl, rfl, rfl, h2, r2⟩ := trodAll_cons r1
  obtain ⟨v3, vs3, d3, ds3, p3, q3, rfl, rfl, rfl, h3, r3⟩ := trodAll_cons r2
  obtain ⟨v4, vs4, d4, ds4, p4, q4, rfl, rfl, rfl, h4, r4⟩ := trodAll_cons r3
  obtain ⟨rfl, rfl, rfl⟩ := trodAll_nil r4
  obtain rfl : args = #[v0, v1, v2, v3, v4] := by cases args; simp_all
  obtain ⟨rfl, rfl⟩ := trodVars_none hV
  have k0 := h0
  have lt0 : ∀ x ∈ p0, x.block < W.heap.size := by obtain ⟨m, hm⟩ := k0; exact DataW.trod_lt m _ _ _ hm
  have k1 := h1
  have lt1 : ∀ x ∈ p1, x.block < W.heap.size := by obtain ⟨m, hm⟩ := k1; exact DataW.trod_lt m _ _ _ hm
  have k2 := h2
  have lt2 : ∀ x ∈ p2, x.block < W.heap.size := by obtain ⟨m, hm⟩ := k2; exact DataW.trod_lt m _ _ _ hm
  have k3 := h3
  have lt3 : ∀ x ∈ p3, x.block < W.heap.size := by obtain ⟨m, hm⟩ := k3; exact DataW.trod_lt m _ _ _ hm
  have k4 := h4
  have lt4 : ∀ x ∈ p4, x.block < W.heap.size := by obtain ⟨m, hm⟩ := k4; exact DataW.trod_lt m _ _ _ hm
  obtain ⟨A0, kap0, l0, rfl, b0, rd0, le0, mx0⟩ := open_bytes (hval 0 22 v0 rfl rfl) h0
  obtain ⟨a1, rfl, -, -, ww1⟩ := open_int Try.underlying48 (hval 1 48 v1 rfl rfl) h1
  have w1 := bounds_u32 ww1
  obtain ⟨a2, rfl, -, -, ww2⟩ := open_int Try.underlying5 (hval 2 5 v2 rfl rfl) h2
  have w2 := bounds_u8 ww2
  obtain ⟨a3, rfl, -, -⟩ := open_bool Try.underlying4 (hval 3 4 v3 rfl rfl) h3
  obtain ⟨A4, kap4, l4, rfl, rd4, kb4, kl4⟩ := open_nums (hval 4 49 v4 rfl rfl) h4
  clear hA0 hval0
  refine (walkSegmentBack A0 kap0 l0 a1 a2 a3 A4 kap4 l4 W b0 rd0 le0 mx0 w1 w2 rd4 kb4 kl4).mono fun e W' ⟨he, bel⟩ => ?_
  subst he
  exact ⟨_, rfl, _, _, _, [], _, [], hW', trodAll_mk1 (shut_bool Try.underlying4 _), (trodAll_cons_mk (Below.trod laidOut (by kernel_rfl) (of_decide_eq_true (by kernel_rfl)) k0 bel lt0) (trodAll_cons_mk (Below.trod laidOut (by kernel_rfl) (of_decide_eq_true (by kernel_rfl)) k1 bel lt1) (trodAll_cons_mk (Below.trod laidOut (by kernel_rfl) (of_decide_eq_true (by kernel_rfl)) k2 bel lt2) (trodAll_cons_mk (Below.trod laidOut (by kernel_rfl) (of_decide_eq_true (by kernel_rfl)) k3 bel lt3) (trodAll_cons_mk (Below.trod laidOut (by kernel_rfl) (of_decide_eq_true (by kernel_rfl)) k4 bel lt4) trodAll_mk0))))), rfl, bel.frame _, fun h => by cases h⟩
/-- The given statement. -/
theorem segmentBack_holds : Rows.SegmentBackSaid :=
  OpenClaim.holds_of_wide 6 Try.f6 rfl rfl rfl rfl rfl rfl rfl ⟨rfl, rfl, rfl, rfl, rfl⟩ rfl rfl rfl rfl rfl (by kernel_rfl) Try.func6 (by kernel_rfl)
    (of_decide_eq_true (by kernel_rfl)) (by unfold Func.isWrapper; first | (rw [if_pos (by decide +kernel)]; kernel_rfl) | (rw [if_neg (by decide +kernel)]; exact ⟨rfl, rfl⟩))
    (fun os started H enc _ => liftedSegmentBack os started H enc)
#print axioms segmentBack_holds
end Go.Proofs.Ytdhajibegkkeiaa
