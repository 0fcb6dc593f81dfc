/- Hello: exchange, the messages of two tables handed over. -/
import Derived.Test.YtkbnacboianjkaaNew
import Derived.Test.YtkbnacboianjkaaPlainX
namespace Go.Proofs.Ytkbnacboianjkaa
set_option linter.unusedVariables false
set_option linter.unusedSimpArgs false
open Go.RowKit
theorem Msgs.at_ {w : World} {base : Nat} {v : Value} {ms : List Msg} (h : Msgs w base v ms) (hn : 0 < ms.length) :
    ∃ g cap, v = .slice (some ⟨g, 0, none⟩) ms.length cap ∧ base ≤ g ∧ g < w.heap.size ∧ ms.length ≤ cap ∧
      ∀ k m, ms[k]? = some m → w.cell? ⟨g, k * 4, none⟩ = some (.int .i64 m.node) ∧ w.cell? ⟨g, k * 4 + 1, none⟩ = some (.int .i64 m.inc) ∧ w.cell? ⟨g, k * 4 + 2, none⟩ = some (.int .i64 m.port) ∧ w.cell? ⟨g, k * 4 + 3, none⟩ = some (.int .i64 m.heard) := by
  have hget : ∀ (ms : List Msg) (k : Nat) (m : Msg), ms[k]? = some m → ∀ j v, (mcells m)[j]? = some v → (mflat ms)[k * 4 + j]? = some v := by
    intro ms
    induction ms with
    | nil => intro k m h; simp at h
    | cons a ms ih =>
      intro k m h j v hj
      have hl : j < 4 := by have := (List.getElem?_eq_some_iff.1 hj).1; simpa [mcells] using this
      cases k with
      | zero => simp at h; subst h; rw [mflat, List.getElem?_append_left (by simp [mcells]; omega)]; simpa using hj
      | succ k =>
        simp at h
        rw [mflat, List.getElem?_append_right (by simp [mcells]; omega)]
        rw [← ih k m h j v hj]; congr 1; simp [mcells]; omega
  rcases h.2 with ⟨_, h0⟩ | ⟨g, cap, cur, hv, hb, hg, hc, hr⟩
  · omega
  · have hlt : g < w.heap.size := by
      rcases Nat.lt_or_ge g w.heap.size with hlt | hge
      · exact hlt
      · rw [Array.getElem?_eq_none hge] at hg; cases hg
    have hcell := World.ownsRow.cells h (g := g) (by rw [hv]; rfl)
    have hadd : ∀ j, (⟨g, 0, none⟩ : Addr).add j = ⟨g, j, none⟩ := by intro j; unfold Addr.add; split <;> simp_all
    refine ⟨g, cap, hv, hb, hlt, hc, fun k m hm => ?_⟩
    exact ⟨by rw [← hadd]; exact hcell _ _ (by simpa using hget ms k m hm 0 _ rfl), by rw [← hadd]; exact hcell _ _ (hget ms k m hm 1 _ rfl), by rw [← hadd]; exact hcell _ _ (hget ms k m hm 2 _ rfl), by rw [← hadd]; exact hcell _ _ (hget ms k m hm 3 _ rfl)⟩
theorem Msgs.nil_ {w : World} {base : Nat} {v : Value} (h : Msgs w base v []) : v.ownBlock = none ∧ v = .slice none 0 0 ∨ ∃ g cap, v = .slice (some ⟨g, 0, none⟩) 0 cap := by
  rcases h.2 with ⟨rfl, _⟩ | ⟨g, cap, cur, hv, _⟩
  · exact .inl ⟨rfl, rfl⟩
  · exact .inr ⟨g, cap, hv⟩
/-- The messages' slice, seen as a value: its length is known, whatever else. -/
theorem Msgs.form {w : World} {base : Nat} {v : Value} {ms : List Msg} (h : Msgs w base v ms) : ∃ A cap, v = .slice A ms.length cap := by
  rcases h.2 with ⟨rfl, h0⟩ | ⟨g, cap, cur, hv, _⟩
  · exact ⟨none, 0, by rw [h0]⟩
  · exact ⟨_, cap, hv⟩
theorem Msgs.only {S : Nat → Prop} {w w' : World} {base : Nat} {v : Value} {ms : List Msg} (h : Msgs w base v ms) (k : OnlyP S w w') (hs : ∀ i, v.ownBlock = some i → ¬ S i) : Msgs w' base v ms := by
  refine ⟨h.1, ?_⟩
  rcases h.2 with h0 | ⟨g, cap, cur, hv, hb, hg, hr⟩
  · exact .inl h0
  · refine .inr ⟨g, cap, cur, hv, hb, ?_, hr⟩
    have hlt : g < w.heap.size := by
      rcases Nat.lt_or_ge g w.heap.size with hlt | hge
      · exact hlt
      · rw [Array.getElem?_eq_none hge] at hg; cases hg
    rw [k.block g hlt (hs g (by rw [hv]; rfl))]; exact hg
abbrev Four (b1 g1 b2 g2 : Nat) (k : Nat) : Prop := k = b1 ∨ k = g1 ∨ k = b2 ∨ k = g2
structure Apart (b1 g1 b2 g2 : Nat) : Prop where
  bb : b1 ≠ b2
  bg : b1 ≠ g2
  gb : g1 ≠ b2
  gg : g1 ≠ g2
def Exch (w : World) (b1 g1 b2 g2 : Nat) (r : Bool × Tb × Tb) (e : Ending) (w' : World) : Prop :=
  e = .returned (.bool r.1) ∧ Table w' b1 g1 r.2.1 ∧ Table w' b2 g2 r.2.2 ∧ OnlyP (Four b1 g1 b2 g2) w w'
set_option maxHeartbeats 2000000 in
theorem exch_c (a b : Tb) (w : World) (b1 g1 b2 g2 n v : Nat) (ha : Table w b1 g1 a) (hb : Table w b2 g2 b) (da : Bd n v a) (db : Bd n v b) (hn : n < 1000000) (hv : v < 1000000000) (hd : Apart b1 g1 b2 g2) (la lb : Bool) :
    Calls Try.prog 13 #[.pointer (some ⟨b1, 0, none⟩), .pointer (some ⟨b2, 0, none⟩), .bool la, .bool lb] w (Exch w b1 g1 b2 g2 (exch la lb a b)) := by
  obtain ⟨d1, d2, d3, d4⟩ := hd
  have k1 := ha.tab.lt
  have k2 := ha.row.lt
  have k3 := hb.tab.lt
  have k4 := hb.row.lt
  go_enter Try.func13, Try.ntmps13
  go_wp2_with fail
  refine (tick_c a _ b1 g1 ha da.fit (by have := da.ticks; omega) (by have := da.ver; omega)).mono ?_
  rintro e w1 ⟨x, rfl, hA1, hX, hO1⟩
  have hB1 := hb.only hO1 (by rintro (h | h); exact d1 h.symm; exact d3 h.symm) (by rintro (h | h); exact d2 h.symm; exact d4 h.symm)
  have s1 := hO1.size
  have HO1 := hid hO1
  have HX := hid hX
  clear ha hb hO1 hX
  go_wp2_with fail
  refine (tick_c b _ b2 g2 hB1 db.fit (by have := db.ticks; omega) (by have := db.ver; omega)).mono ?_
  rintro e w2 ⟨y, rfl, hB2, hY, hO2⟩
  have hA2 := hA1.only hO2 (by rintro (h | h); exact d1 h; exact d2 h) (by rintro (h | h); exact d3 h; exact d4 h)
  have hX2 := HX.out.only hO2 (fun i hi => by have := (HX.out.lt i hi).1; rintro (h | h) <;> omega)
  have s2 := hO2.size
  have HO2 := hid ((HO1.out.mono (S' := Four b1 g1 b2 g2) (by rintro i (h | h); exact .inl h; exact .inr (.inl h))).trans (hO2.mono (S' := Four b1 g1 b2 g2) (by rintro i (h | h); exact .inr (.inr (.inl h)); exact .inr (.inr (.inr h)))))
  have hxb : ∀ i, x.ownBlock = some i → w.heap.size ≤ i := fun i hi => (hX2.lt i hi).1
  have hyb : ∀ i, y.ownBlock = some i → w1.heap.size ≤ i := fun i hi => (hY.lt i hi).1
  obtain ⟨xa, xc, rfl⟩ := hX2.form
  obtain ⟨ya, yc, rfl⟩ := hY.form
  have HX2 := hid hX2
  have HY2 := hid hY
  have HA2 := hid hA2
  have HB2 := hid hB2
  have DA := bd_tick da hn
  have DB := bd_tick db hn
  have lx := out_len (tick a)
  have ly := out_len (tick b)
  have lx2 := DA.few
  have ly2 := DB.few
  have HXB := hid hxb
  have HYB := hid hyb
  have HE := hid (show exch la lb a b = ((deliver 0 1 lb (out (tick b)) ((deliver 1 0 la (out (tick a)) (true, tick b)).1, tick a)).1, (deliver 0 1 lb (out (tick b)) ((deliver 1 0 la (out (tick a)) (true, tick b)).1, tick a)).2, (deliver 1 0 la (out (tick a)) (true, tick b)).2) from rfl)
  clear HX HO1 hA1 hB1 hX2 hY hA2 hB2 hO2 hxb hyb
  generalize exch la lb a b = ex at *
  generalize tick a = ta at *
  generalize tick b = tb at *
  generalize out ta = X at *
  generalize out tb = Y at *
  go_wp2_with fail
  go_loopw [11, 22] (fun v11 v22 wr => ∃ (k : Nat) (ok : Bool) (t : Tb), k ≤ X.length ∧ v22 = .int .i64 k ∧ v11 = .bool ok ∧ Hid (deliver 1 0 la (X.take k) (true, tb) = (ok, t)) ∧ Bd (n + 1) (v + 8 + k) t ∧ Table wr b1 g1 ta ∧ Table wr b2 g2 t ∧ Msgs wr w.heap.size (.slice xa X.length xc) X ∧ Msgs wr w1.heap.size (.slice ya Y.length yc) Y ∧ OnlyP (Four b1 g1 b2 g2) w wr) (fun _ v22 _ => X.length - (intOf v22).toNat)
  case atStart => exact ⟨0, true, tb, by omega, rfl, rfl, rfl, DB, HA2.out, HB2.out, HX2.out, HY2.out, HO2.out⟩
  case round =>
    obtain ⟨k, ok, t, hk, rfl, rfl, hdl, hbd, hA, hB, hX, hY, hO⟩ := hrel
    have HA := hid hA
    have HB := hid hB
    have HX := hid hX
    have HY := hid hY
    have HO := hid hO
    have HD := hid hbd
    clear hA hB hX hY hO hbd HX2 HY2 HA2 HB2 HO2
    by_cases hlt : k < X.length
    · obtain ⟨gx, cap, hxv, hgb, hgl, hcap, hcell⟩ := HX.out.at_ (by omega)
      injection hxv with e1 _ e3
      subst e1 e3
      have hm := List.getElem?_eq_getElem hlt
      obtain ⟨c0, c1, c2, c3⟩ := hcell k _ hm
      have hT := List.take_succ_eq_append_getElem hlt
      have hS := deliver_snoc 1 0 la (X.take k) X[k] (true, tb)
      rw [← hT, hdl] at hS
      generalize X[k] = m at *
      have HS := hid hS
      have HD2 := bd_step (s := (ok, t)) HD.out 1 0 la m
      clear hm hT hS hdl hcell
      have hbl : b2 < wr.heap.size := HB.out.tab.lt
      have hgl2 : g2 < wr.heap.size := HB.out.row.lt
      have hbl3 : b1 < wr.heap.size := HA.out.tab.lt
      have hgl3 : g1 < wr.heap.size := HA.out.row.lt
      rcases bool_int m.port 1 with ⟨q1, q2⟩ | ⟨q1, q2⟩
      · cases hlo : la with
        | true =>
          rw [hlo] at HS HD2
          have E := hid (show stepM 1 0 true (ok, t) m = (ok, t) by simp [stepM])
          rw [E.out] at HS HD2
          go_wp2_with fail
          go_roundw
          case rel => exact ⟨k + 1, ok, t, by omega, by go_num, rfl, HS, bd_mono HD.out (Nat.le_refl _) (by omega), HA.out.alloc _, HB.out.alloc _, HX.out.only ((OnlyP.refl (fun _ => False) wr).alloc _) (fun _ _ h => h), HY.out.only ((OnlyP.refl (fun _ => False) wr).alloc _) (fun _ _ h => h), HO.out.alloc _⟩
          case measure => simp [intOf]; omega
        | false =>
          rw [hlo] at HS HD2
          cases ok with
          | false =>
            have E := hid (show stepM 1 0 false (false, t) m = (false, t) by simp [stepM, give])
            rw [E.out] at HS HD2
            go_wp2_with fail
            go_roundw
            case rel => exact ⟨k + 1, false, t, by omega, by go_num, rfl, HS, bd_mono HD.out (Nat.le_refl _) (by omega), HA.out.alloc _, HB.out.alloc _, HX.out.only ((OnlyP.refl (fun _ => False) wr).alloc _) (fun _ _ h => h), HY.out.only ((OnlyP.refl (fun _ => False) wr).alloc _) (fun _ _ h => h), HO.out.alloc _⟩
            case measure => simp [intOf]; omega
          | true =>
            have E := hid (show stepM 1 0 false (true, t) m = (recvE t 0 m == 0, recv t 0 m) by simp only [stepM, give, q1]; rfl)
            rw [E.out] at HS HD2
            go_wp2_with fail
            refine (recv_c t 0 m _ b2 g2 (HB.out.alloc _) HD.out.fit.ver0 (by have := HD.out.ver; omega)).mono ?_
            rintro e w3 ⟨rfl, hR, hO3⟩
            have HR := hid hR
            have HK := hid ((HA.out.alloc (.cells #[.int .i64 m.node, .int .i64 m.inc, .int .i64 m.port, .int .i64 m.heard] 39)).only hO3 (by rintro (h | h); exact d1 h; exact d2 h) (by rintro (h | h); exact d3 h; exact d4 h))
            have HX3 := hid (((HX.out).only ((OnlyP.refl (fun _ => False) wr).alloc (.cells #[.int .i64 m.node, .int .i64 m.inc, .int .i64 m.port, .int .i64 m.heard] 39)) (fun _ _ h => h)).only hO3 (fun i hi => by have := HXB.out i hi; rintro (h | h) <;> omega))
            have HY3 := hid (((HY.out).only ((OnlyP.refl (fun _ => False) wr).alloc (.cells #[.int .i64 m.node, .int .i64 m.inc, .int .i64 m.port, .int .i64 m.heard] 39)) (fun _ _ h => h)).only hO3 (fun i hi => by have := HYB.out i hi; rintro (h | h) <;> omega))
            have HO3 := hid ((HO.out.alloc (.cells #[.int .i64 m.node, .int .i64 m.inc, .int .i64 m.port, .int .i64 m.heard] 39)).trans (hO3.mono (S' := Four b1 g1 b2 g2) (by rintro i (h | h); exact .inr (.inr (.inl h)); exact .inr (.inr (.inr h)))))
            clear hR hO3 c0 c1 c2 c3
            go_wp2_with fail
            go_roundw
            case rel => exact ⟨k + 1, _, _, by omega, by go_num, rfl, HS, HD2, HK.out, HR.out, HX3.out, HY3.out, HO3.out⟩
            case measure => simp [intOf]; omega
      · have E := hid (show stepM 1 0 la (ok, t) m = (ok, t) by simp only [stepM, q1]; rfl)
        rw [E.out] at HS HD2
        go_wp2_with fail
        go_roundw
        case rel => exact ⟨k + 1, ok, t, by omega, by go_num, rfl, HS, bd_mono HD.out (Nat.le_refl _) (by omega), HA.out.alloc _, HB.out.alloc _, HX.out.only ((OnlyP.refl (fun _ => False) wr).alloc _) (fun _ _ h => h), HY.out.only ((OnlyP.refl (fun _ => False) wr).alloc _) (fun _ _ h => h), HO.out.alloc _⟩
        case measure => simp [intOf]; omega
    · have hk' : k = X.length := by omega
      subst hk'
      rw [List.take_length] at hdl
      have HDL := hdl
      rw [HDL.out] at HE
      obtain ⟨wo, rfl⟩ : ∃ wo : World, wo = wr := ⟨_, rfl⟩
      obtain ⟨ok1, hok1⟩ : ∃ o, o = ok := ⟨_, rfl⟩
      obtain ⟨t1, ht1⟩ : ∃ o, o = t := ⟨_, rfl⟩
      subst hok1 ht1
      have hHX : True := trivial
      clear hdl HX
      go_wp2_with fail
      go_loopw [11, 43] (fun v11 v43 wr => ∃ (k : Nat) (ok : Bool) (t : Tb), k ≤ Y.length ∧ v43 = .int .i64 k ∧ v11 = .bool ok ∧ Hid (deliver 0 1 lb (Y.take k) (ok1, ta) = (ok, t)) ∧ Bd (n + 1) (v + 8 + k) t ∧ Table wr b1 g1 t ∧ Table wr b2 g2 t1 ∧ Msgs wr w1.heap.size (.slice ya Y.length yc) Y ∧ OnlyP (Four b1 g1 b2 g2) w wr) (fun _ v43 _ => Y.length - (intOf v43).toNat)
      case atStart => exact ⟨0, ok1, ta, by omega, rfl, rfl, rfl, DA, HA.out, HB.out, HY.out, HO.out⟩
      case round =>
        obtain ⟨k, ok, t, hk, rfl, rfl, hdl, hbd, hA, hB, hY, hO⟩ := hrel
        clear HA HB HY HO HD
        have HA := hid hA
        have HB := hid hB
        have HY := hid hY
        have HO := hid hO
        have HD := hid hbd
        clear hA hB hY hO hbd
        by_cases hlt : k < Y.length
        · obtain ⟨gx, cap, hxv, hgb, hgl, hcap, hcell⟩ := HY.out.at_ (by omega)
          injection hxv with e1 _ e3
          subst e1 e3
          have hm := List.getElem?_eq_getElem hlt
          obtain ⟨c0, c1, c2, c3⟩ := hcell k _ hm
          have hT := List.take_succ_eq_append_getElem hlt
          have hS := deliver_snoc 0 1 lb (Y.take k) Y[k] (ok1, ta)
          rw [← hT, hdl] at hS
          generalize Y[k] = m at *
          have HS := hid hS
          have HD2 := bd_step (s := (ok, t)) HD.out 0 1 lb m
          clear hm hT hS hdl hcell
          have hbl : b1 < wr.heap.size := HA.out.tab.lt
          have hgl2 : g1 < wr.heap.size := HA.out.row.lt
          have hbl3 : b2 < wr.heap.size := HB.out.tab.lt
          have hgl3 : g2 < wr.heap.size := HB.out.row.lt
          rcases bool_int m.port 0 with ⟨q1, q2⟩ | ⟨q1, q2⟩
          · cases hlo : lb with
            | true =>
              rw [hlo] at HS HD2
              have E := hid (show stepM 0 1 true (ok, t) m = (ok, t) by simp [stepM])
              rw [E.out] at HS HD2
              go_wp2_with fail
              go_roundw
              case rel => exact ⟨k + 1, ok, t, by omega, by go_num, rfl, HS, bd_mono HD.out (Nat.le_refl _) (by omega), HA.out.alloc _, HB.out.alloc _, HY.out.only ((OnlyP.refl (fun _ => False) wr).alloc _) (fun _ _ h => h), HO.out.alloc _⟩
              case measure => simp [intOf]; omega
            | false =>
              rw [hlo] at HS HD2
              cases ok with
              | false =>
                have E := hid (show stepM 0 1 false (false, t) m = (false, t) by simp [stepM, give])
                rw [E.out] at HS HD2
                go_wp2_with fail
                go_roundw
                case rel => exact ⟨k + 1, false, t, by omega, by go_num, rfl, HS, bd_mono HD.out (Nat.le_refl _) (by omega), HA.out.alloc _, HB.out.alloc _, HY.out.only ((OnlyP.refl (fun _ => False) wr).alloc _) (fun _ _ h => h), HO.out.alloc _⟩
                case measure => simp [intOf]; omega
              | true =>
                have E := hid (show stepM 0 1 false (true, t) m = (recvE t 1 m == 0, recv t 1 m) by simp only [stepM, give, q1]; rfl)
                rw [E.out] at HS HD2
                go_wp2_with fail
                refine (recv_c t 1 m _ b1 g1 (HA.out.alloc _) HD.out.fit.ver0 (by have := HD.out.ver; omega)).mono ?_
                rintro e w3 ⟨rfl, hR, hO3⟩
                have HR := hid hR
                have HK := hid ((HB.out.alloc (.cells #[.int .i64 m.node, .int .i64 m.inc, .int .i64 m.port, .int .i64 m.heard] 39)).only hO3 (by rintro (h | h); exact d1 h.symm; exact d3 h.symm) (by rintro (h | h); exact d2 h.symm; exact d4 h.symm))
                have HY3 := hid (((HY.out).only ((OnlyP.refl (fun _ => False) wr).alloc (.cells #[.int .i64 m.node, .int .i64 m.inc, .int .i64 m.port, .int .i64 m.heard] 39)) (fun _ _ h => h)).only hO3 (fun i hi => by have := HYB.out i hi; rintro (h | h) <;> omega))
                have HO3 := hid ((HO.out.alloc (.cells #[.int .i64 m.node, .int .i64 m.inc, .int .i64 m.port, .int .i64 m.heard] 39)).trans (hO3.mono (S' := Four b1 g1 b2 g2) (by rintro i (h | h); exact .inl h; exact .inr (.inl h))))
                clear hR hO3 c0 c1 c2 c3
                go_wp2_with fail
                go_roundw
                case rel => exact ⟨k + 1, _, _, by omega, by go_num, rfl, HS, HD2, HR.out, HK.out, HY3.out, HO3.out⟩
                case measure => simp [intOf]; omega
          · have E := hid (show stepM 0 1 lb (ok, t) m = (ok, t) by simp only [stepM, q1]; rfl)
            rw [E.out] at HS HD2
            go_wp2_with fail
            go_roundw
            case rel => exact ⟨k + 1, ok, t, by omega, by go_num, rfl, HS, bd_mono HD.out (Nat.le_refl _) (by omega), HA.out.alloc _, HB.out.alloc _, HY.out.only ((OnlyP.refl (fun _ => False) wr).alloc _) (fun _ _ h => h), HO.out.alloc _⟩
            case measure => simp [intOf]; omega
        · have hk' : k = Y.length := by omega
          subst hk'
          rw [List.take_length] at hdl
          rw [hdl.out] at HE
          go_wp2_with fail
          go_ret
          exact ⟨by rw [HE.out]; rfl, by rw [HE.out]; exact HA.out, by rw [HE.out]; exact HB.out, HO.out⟩
end Go.Proofs.Ytkbnacboianjkaa
