/- Hello: Tick and its closures. -/
import Derived.Test.YtkbnacboianjkaaRecv
namespace Go.Proofs.Ytkbnacboianjkaa
set_option linter.unusedVariables false
set_option linter.unusedSimpArgs false
open Go.RowKit
theorem Table.put0 {w : World} {b g : Nat} {t : Tb} (h : Table w b g t) {i : Nat} {p : Pt} (hp : t.ports[i]? = some p) :
    Table (w.setCell ⟨g, i * 6, none⟩ (.int .i64 0)) b g { t with ports := t.ports.set i { p with state := 0 } } := by
  have hi : i < t.ports.length := (List.getElem?_eq_some_iff.1 hp).1
  refine ⟨?_, ?_, by simpa using h.pos, by simpa using h.few⟩
  · have := h.tab.far h.ne (.int .i64 0) (p := ⟨g, i * 6, none⟩)
    simpa [tcells] using this
  · refine h.row.to _ _ ?_
    rw [← flat_put hi { p with state := 0 }]
    simp only [List.setIfInBounds_toArray]
    congr 1
    have key : ∀ j v, (pcells p)[j + 1]? = some v → ((flat t.ports).set (i * 6) (.int .i64 0))[i * 6 + (j + 1)]? = some v := by
      intro j v hv
      rw [List.getElem?_set_ne (by omega)]
      exact flat_get hp hv
    have fixed : ∀ (l : List Value) (k : Nat) (v : Value), l[k]? = some v → l.set k v = l := by
      intro l k v hv
      obtain ⟨hk, e⟩ := List.getElem?_eq_some_iff.1 hv
      rw [← e]; exact List.set_getElem_self hk
    rw [fixed _ _ _ (key 0 _ rfl), fixed _ _ _ (key 1 _ rfl), fixed _ _ _ (key 2 _ rfl), fixed _ _ _ (key 3 _ rfl), fixed _ _ _ (key 4 _ rfl)]
set_option maxHeartbeats 1000000 in
theorem fade_c (t : Tb) (i : Nat) (p : Pt) (w : World) (b g c : Nat) (h : Table w b g t) (hp : t.ports[i]? = some p) (hc : w.cell? ⟨c, 0, none⟩ = some (.pointer (some ⟨b, 0, none⟩))) (hcb : c ≠ b) (hcg : c ≠ g) (hf : Fit t) (hv1 : t.version < 1000000000009) :
    Calls Try.prog 27 #[.int .i64 (i : Int), .pointer (some ⟨g, i * 6, none⟩), .pointer (some ⟨c, 0, none⟩)] w fun e w' => e = .returned (.tuple #[]) ∧ Table w' b g (fade1 t i p) ∧ OnlyP (Own b g) w w' := by
  obtain ⟨h0, h1, h2, h3, h4, h5, h6⟩ := h.all
  obtain ⟨p0, p1, p2, p3, p4, p5⟩ := h.at_ hp
  have hi : i < t.ports.length := (List.getElem?_eq_some_iff.1 hp).1
  obtain ⟨hs0, hs1⟩ := hf.since p (List.mem_of_getElem? hp)
  have ht0 := hf.ticks0
  have ht1 := hf.ticks1
  have hv0 := hf.ver0
  have fv := h.tab.free 5
  have f0 := h.row.free (i * 6)
  have hlt := h.tab.lt
  have hlt2 := h.row.lt
  have hne := h.ne
  have hne2 := Ne.symm h.ne
  have H := hid h
  have HP := hid hp
  have T1 := fun n => hid ((h.drewN n).put0 hp)
  have T2 := fun n v => hid (((h.drewN n).put0 hp).ver v)
  clear h hp hf
  rcases bool_int p.state 0 with ⟨s1, s2⟩ | ⟨s1, s2⟩
  · have E := hid (show fade1 t i p = t by unfold fade1 fades; rw [s1]; rfl)
    go_enter Try.func27, Try.ntmps27
    go_wp2_with fail
    go_quiet (fail)
    go_wp2_with fail
    go_end0
    exact ⟨rfl, by rw [E.out]; exact H.out.drewN _, (OnlyP.refl _ _).drewN _⟩
  · by_cases hd : t.dead ≤ t.ticks - p.since
    · have E := hid (show fade1 t i p = { t with version := t.version + 1, ports := t.ports.set i { p with state := 0 } } by unfold fade1 fades; rw [s1, decide_eq_true hd]; rfl)
      go_enter Try.func27, Try.ntmps27
      go_wp2_with fail
      go_quiet (fail)
      go_wp2_with fail
      go_end0
      exact ⟨rfl, by rw [E.out]; exact (T2 _ _).out, (((OnlyP.refl _ _).drewN _).set (.inl (.inr rfl)) _).set (.inl (.inl rfl)) _⟩
    · have E := hid (show fade1 t i p = t by unfold fade1 fades; rw [s1, decide_eq_false hd]; rfl)
      have hd' : t.ticks - p.since < t.dead := by omega
      clear hd
      go_enter Try.func27, Try.ntmps27
      go_wp2_with fail
      go_quiet (fail)
      go_wp2_with fail
      go_end0
      exact ⟨rfl, by rw [E.out]; exact H.out.drewN _, (OnlyP.refl _ _).drewN _⟩
set_option maxHeartbeats 1000000 in
theorem visitFade_c (t : Tb) (w : World) (b g c : Nat) (h : Table w b g t) (hf : Fit t) (hv1 : t.version < 1000000000000) (hc : w.cell? ⟨c, 0, none⟩ = some (.pointer (some ⟨b, 0, none⟩))) (hcb : c ≠ b) (hcg : c ≠ g) (hcl : c < w.heap.size) :
    Calls Try.prog 26 #[.func (.func 27) #[] #[.pointer (some ⟨c, 0, none⟩)], .pointer (some ⟨c, 0, none⟩)] w fun e w' => e = .returned (.tuple #[]) ∧ Table w' b g (fadeTo t.ports.length t) ∧ OnlyP (Own b g) w w' := by
  obtain ⟨h0, h1, h2, h3, h4, h5, h6⟩ := h.all
  have hlt := h.tab.lt
  have hlt2 := h.row.lt
  have hn := h.few
  have H := hid h
  have HF := hid hf
  clear h hf h0 h1 h2 h3 h4 h5
  go_enter Try.func26, Try.ntmps26
  go_wp2_with fail
  go_loopw [3, 9] (fun v3 v9 wr => ∃ k : Nat, k ≤ t.ports.length ∧ v9 = .int .i64 k ∧ Table wr b g (fadeTo k t) ∧ OnlyP (Own b g) w wr) (fun _ v9 _ => t.ports.length - (intOf v9).toNat)
  case atStart => exact ⟨0, by omega, rfl, by rw [fadeTo_zero]; exact H.out, OnlyP.refl _ _⟩
  case round =>
    obtain ⟨k, hk, rfl, hT, hO⟩ := hrel
    have hc' := (hO.cells c 0 hcl (by rintro (h | h); exact hcb h; exact hcg h)).trans hc
    have g6 := hT.all.2.2.2.2.2.2
    rw [fadeTo_len] at g6
    have HT := hid hT
    have HO := hid hO
    clear hT hO hc h6
    by_cases hlt : k < t.ports.length
    · have hp := getD_some hlt
      have hs := fadeTo_succ hp
      have hn1 := fadeN_bd t.dead t.ticks (t.ports.take k)
      have hvk : (fadeTo k t).version < 1000000000009 := by
        have : (t.ports.take k).length ≤ 8 := by simp; omega
        simp only [fadeTo]; omega
      go_wp2_with fail
      refine (fade_c (fadeTo k t) k _ _ b g c HT.out (fadeTo_at hp) hc' hcb hcg (HF.out.fadeTo k) hvk).mono ?_
      rintro e w' ⟨rfl, hT', hO'⟩
      rw [hs] at hT'
      have HT' := hid hT'
      have HO' := hid (HO.out.trans hO')
      clear hT' hO' hs hp hvk
      go_wp2_with fail
      go_roundw
      case rel => exact ⟨k + 1, by omega, by go_num, HT'.out, HO'.out⟩
      case measure => simp [intOf]; omega
    · have hk' : k = t.ports.length := by omega
      subst hk'
      go_wp2_with fail
      go_end0
      exact ⟨rfl, HT.out, HO.out⟩
end Go.Proofs.Ytkbnacboianjkaa
